/- The walks over the law's own word and over patoisref15.SameWord. Bounds on the lengths. -/
import Derived.Test.YtlhpflilpdceiaaDoorScanWG
set_option linter.unusedVariables false
set_option linter.unusedSimpArgs false
namespace Go.Proofs.YtlhpflilpdceiaaDoor
open Go.RowKit

abbrev tP5 : TypeId := 88
abbrev tW5 : TypeId := 86
abbrev tC5 : TypeId := 41
theorem infoPart5 : (Tryd.prog.info? 88).map (fun i => (i.zero, i.size, i.bytes)) = some (some (.agg #[.int .i64 0, .int .i64 0, .int .i64 0, .string { data := #[] }]), 4, 40) := by kernel_rfl
theorem infoWord5 : (Tryd.prog.info? 86).map (fun i => (i.zero, i.size, i.bytes)) = some (some (.agg #[.int .i64 0, .bool false, .slice none 0 0]), 3, 40) := by kernel_rfl
theorem infoCmd5 : (Tryd.prog.info? 41).map (fun i => (i.zero, i.size, i.bytes)) = some (some (.agg #[.int .i64 0, .slice none 0 0]), 2, 32) := by kernel_rfl
/-- Three blocks just laid. -/
theorem blk3 {w w3 : World} {t0 t1 t2 : TypeId} {c0 c1 c2 : Array Value} (hw : w3 = ((w.alloc (.cells c0 t0)).alloc (.cells c1 t1)).alloc (.cells c2 t2)) : Blk w3 w.heap.size t0 c0 ∧ Blk w3 (w.heap.size + 1) t1 c1 ∧ Blk w3 (w.heap.size + 2) t2 c2 ∧ Below w.heap.size w w3 ∧ w3.heap.size = w.heap.size + 3 := by
  subst hw
  have hbl : ∀ (W : World) (o : Obj), Below W.heap.size W (W.alloc o) := fun W o => (Below.refl _ _).alloc (Nat.le_refl _) _
  have s1 := alloc_size w (.cells c0 t0)
  have s2 := alloc_size (w.alloc (.cells c0 t0)) (.cells c1 t1)
  have s3 := alloc_size ((w.alloc (.cells c0 t0)).alloc (.cells c1 t1)) (.cells c2 t2)
  have k0 := Blk.new w t0 c0
  have k1 := Blk.new (w.alloc (.cells c0 t0)) t1 c1
  have k2 := Blk.new ((w.alloc (.cells c0 t0)).alloc (.cells c1 t1)) t2 c2
  rw [s1] at k1
  rw [s2, s1] at k2
  have b1 := hbl w (.cells c0 t0)
  have b2 := hbl (w.alloc (.cells c0 t0)) (.cells c1 t1)
  have b3 := hbl ((w.alloc (.cells c0 t0)).alloc (.cells c1 t1)) (.cells c2 t2)
  exact ⟨(k0.below b2).below b3, k1.below b3, k2, (b1.trans (b2.mono (by omega))).trans (b3.mono (by omega)), by omega⟩
theorem take_flat {α : Type} (enc : α → List Value) (l : List α) (k : Nat) (h : k < l.length) : (l.take (k + 1)).flatMap enc = (l.take k).flatMap enc ++ enc l[k] := by
  rw [List.take_succ_eq_append_getElem h, List.flatMap_append]
  simp
theorem take_len {α : Type} {l : List α} {k : Nat} (h : k ≤ l.length) : (l.take k).length = k := by rw [List.length_take]; omega
set_option maxHeartbeats 4000000 in
theorem word15_any (x : CWord) (v : Value) (w : World) (h : RdP w v x.parts) (hl : x.parts.length ≤ 100000) : Calls Tryd.prog 31 #[.agg #[.int .i64 x.pos, .bool x.braced, v]] w fun e w' => ∃ v', e = .returned (.agg #[.int .i64 x.pos, .bool x.braced, v']) ∧ OwnP tP5 w' w.heap.size v' x.parts ∧ Below w.heap.size w w' := by
  obtain ⟨iP, hinfP, hzP0, hzP1, hzP2⟩ := info_parts infoPart5
  obtain ⟨pos, br, ps⟩ := x
  simp only at h hl ⊢
  obtain ⟨A, c, rfl, hrd, -⟩ := h
  obtain ⟨w3, hw3⟩ : ∃ w3, w3 = ((w.alloc (.cells #[.int .i64 pos, .bool br, .slice A ps.length c] 36)).alloc (.cells #[.int .i64 0, .bool false, .slice none 0 0] 86)).alloc (.cells #[.int .i64 pos, .bool br, .slice none 0 0] 86) := ⟨_, rfl⟩
  have HW3 := Lib.hid hw3
  obtain ⟨m, hm⟩ : ∃ m, m = ps.length := ⟨_, rfl⟩
  rw [← hm] at hl HW3 ⊢
  obtain ⟨k0, k1, k2, hb3, hz3⟩ := blk3 hw3
  rw [← hm] at k0
  have HM := Lib.hid hm
  have HK0 := Lib.hid k0
  have HK1 := Lib.hid k1
  have HK2 := Lib.hid k2
  have HB3 := Lib.hid hb3
  have HZ3 := Lib.hid hz3
  have HRD := Lib.hid (fun (W : World) (hb : Below w.heap.size w W) => hrd.below hb)
  clear k0 k1 k2 hb3 hz3 hw3 hm hrd
  go_enter Tryd.func31, Tryd.ntmps31
  go_upto_region 2 with (fail)
  rw [← HW3.out]
  go_wp2_with fail
  go_loopw [4] (fun i wr => ∃ (k : Nat) (A' : Option Addr) (c' : Nat), k ≤ m ∧ i = .int .i64 k ∧ Blk wr (w.heap.size + 2) tW5 #[.int .i64 pos, .bool br, .slice A' k c'] ∧ wr.ownsRow w3.heap.size tP5 4 (.slice A' k c') k ((ps.take k).flatMap cpc) ∧ But (w.heap.size + 2) w3 wr) (fun i _ => m - (intOf i).toNat)
  case atStart => exact ⟨0, none, 0, Nat.zero_le _, rfl, HK2.out, World.ownsRow_nil _ _ _ _, But.refl _ _⟩
  case round =>
    obtain ⟨k, A', c', hk, rfl, hQ, ho, hB⟩ := hrel
    have hBz := hB.size
    have hz3 := HZ3.out
    have k0 := hB.blk HK0.out (by omega)
    have k1 := hB.blk HK1.out (by omega)
    have b2 := k0.cell 2
    have q2 := hQ.cell 2
    simp only [List.getElem?_toArray, List.getElem?_cons_zero, List.getElem?_cons_succ] at b2 q2
    have HBW := Lib.hid (HB3.out.trans (hB.below (n := w.heap.size) (by omega) (by omega)))
    have HBT := Lib.hid hB
    have HQ := Lib.hid hQ
    have HO := Lib.hid ho
    have HBL := Lib.hid (fun (T : TypeId) (cs : Array Value) => (Below.refl wr.heap.size wr).alloc (Nat.le_refl _) (.cells cs T))
    clear hB hQ ho
    by_cases hlt : k < m
    · have hlt' : k < ps.length := by rw [← HM.out]; exact hlt
      have hr := HRD.out wr HBW.out
      obtain ⟨b, o, hAe, -⟩ := hr.addr (by omega)
      subst hAe
      obtain ⟨d0, d1, d2, d3⟩ := RdL.cparts hr hlt'
      have HF := Lib.hid (take_flat cpc ps k hlt')
      obtain ⟨p, hp⟩ : ∃ p, p = ps[k] := ⟨_, rfl⟩
      rw [← hp] at HF d0 d1 d2 d3
      clear hr hp hlt' k1
      go_upto_region 6 with (fail)
      have hbk := HBL.out 48 #[.int .i64 p.kind, .int .i64 p.pos, .int .i64 p.n, .string { data := p.s.toArray }]
      have hP := Blk.new wr 48 #[.int .i64 p.kind, .int .i64 p.pos, .int .i64 p.n, .string { data := p.s.toArray }]
      have hQk := HQ.out.below hbk
      have HOK := Lib.hid (own_below HO.out hbk)
      have HBK := Lib.hid (HBT.out.trans (But.of hbk))
      have hKz : w3.heap.size ≤ (wr.alloc (.cells #[.int .i64 p.kind, .int .i64 p.pos, .int .i64 p.n, .string { data := p.s.toArray }] 48)).heap.size := Nat.le_trans hBz hbk.size
      obtain ⟨K, hK⟩ : ∃ K, K = wr.heap.size := ⟨_, rfl⟩
      rw [← hK] at hP ⊢
      clear hbk d0 d1 d2 d3 b2 q2 k0
      generalize wr.alloc (.cells #[.int .i64 p.kind, .int .i64 p.pos, .int .i64 p.n, .string { data := p.s.toArray }] 48) = wk at *
      have p0 := hP.cell 0
      have p1 := hP.cell 1
      have p2 := hP.cell 2
      have p3 := hP.cell 3
      have q2 := hQk.cell 2
      simp only [List.getElem?_toArray, List.getElem?_cons_zero, List.getElem?_cons_succ] at p0 p1 p2 p3 q2
      have HQK := Lib.hid hQk
      clear hP hQk hK
      go_wp2_with (at_builtin; refine wpList_push rfl _ _ _ rfl Tryd.underlying84 hinfP hzP0 hzP1 hzP2 rfl (by decide) HOK.out rfl rfl rfl (by simp [Value.oneCell']) (by omega) (by decide) hKz ?_; intro A4 c4 w4 ho4 hb4 hoo4; have hQ4 := HQK.out.others hoo4 (by decide); have z2 := hQ4.cell 2; have f2 := hQ4.frozen 2; simp only [List.getElem?_toArray, List.getElem?_cons_zero, List.getElem?_cons_succ] at z2; have HO4 := Lib.hid ho4; have HB4 := Lib.hid hb4; have HQ4 := Lib.hid hQ4; clear ho4 hb4 hoo4 hQ4)
      have hQ5 := HQ4.out.set 2 (.slice A4 (k + 1) c4)
      simp only [List.setIfInBounds_toArray, List.set_cons_succ, List.set_cons_zero] at hQ5
      go_roundw
      case rel =>
        refine ⟨k + 1, A4, c4, by omega, by go_num, hQ5, ?_, (HBK.out.of2 HB4.out).trans (But.set _ 2 _)⟩
        rw [HF.out]
        exact own_but HO4.out (But.set _ 2 _) HQ4.out (by decide)
      case measure => simp [intOf]; omega
    · obtain rfl : k = m := by omega
      have e0 := HQ.out.cell 0
      have e1 := HQ.out.cell 1
      have r0 := k1.cell 0
      have r1 := k1.cell 1
      have r2 := k1.cell 2
      have g0 := k1.frozen 0
      have g1 := k1.frozen 1
      have g2 := k1.frozen 2
      simp only [List.getElem?_toArray, List.getElem?_cons_zero, List.getElem?_cons_succ] at e0 e1 r0 r1 r2
      have HR := Lib.hid k1
      have HL := Lib.hid (show ps.take k = ps by rw [HM.out, List.take_length])
      clear k0 k1
      go_wp2_with fail
      have hRf := HR.out.set3 (.int .i64 pos) (.bool br) (.slice A' k c')
      have hBf := But.set3 (w.heap.size + 1) wr (.int .i64 pos) (.bool br) (.slice A' k c')
      have t0 := hRf.cell 0
      have t1 := hRf.cell 1
      have t2 := hRf.cell 2
      simp only [List.getElem?_toArray, List.getElem?_cons_zero, List.getElem?_cons_succ] at t0 t1 t2
      refine bodyPost_ret (v := .agg #[.int .i64 pos, .bool br, .slice A' k c']) (by simp [results, Tryd.results31, go_sem, t0, t1, t2]) rfl ?_
      refine ⟨_, rfl, ?_, HBW.out.trans (hBf.below (by omega) HBW.out.size)⟩
      have ho := HO.out
      rw [HL.out] at ho
      unfold OwnP
      rw [← HM.out]
      exact own_mono (own_but ho hBf HR.out (by decide)) (by omega)
set_option maxRecDepth 100000 in
set_option maxHeartbeats 4000000 in
theorem sameword_any (x : CWord) (v u : Value) (w : World) (h : RdP w v x.parts) (h' : RdP w u x.parts) (hl : x.parts.length ≤ 100000) : Calls Tryd.prog 32 #[.agg #[.int .i64 x.pos, .bool x.braced, v], .agg #[.int .i64 x.pos, .bool x.braced, u]] w (Ret w (.bool true)) := by
  obtain ⟨pos, br, ps⟩ := x
  simp only at h h' hl ⊢
  obtain ⟨A, c, rfl, hrd, -⟩ := h
  obtain ⟨A', c', rfl, hrd', -⟩ := h'
  obtain ⟨w2, hw2⟩ : ∃ w2, w2 = (w.alloc (.cells #[.int .i64 pos, .bool br, .slice A ps.length c] 86)).alloc (.cells #[.int .i64 pos, .bool br, .slice A' ps.length c'] 86) := ⟨_, rfl⟩
  have HW2 := Lib.hid hw2
  have hb2 : Below w.heap.size w w2 := by rw [hw2]; exact below3 _ _ _
  have k0 : Blk w2 w.heap.size 86 #[.int .i64 pos, .bool br, .slice A ps.length c] := by rw [hw2]; exact (Blk.new w _ _).below ((Below.refl _ _).alloc (Nat.le_refl _) _)
  have k1 : Blk w2 (w.heap.size + 1) 86 #[.int .i64 pos, .bool br, .slice A' ps.length c'] := by
    rw [hw2]
    have := Blk.new (w.alloc (.cells #[.int .i64 pos, .bool br, .slice A ps.length c] 86)) 86 #[.int .i64 pos, .bool br, .slice A' ps.length c']
    rwa [alloc_size] at this
  obtain ⟨m, hm⟩ : ∃ m, m = ps.length := ⟨_, rfl⟩
  rw [← hm] at hl HW2 k0 k1 ⊢
  have HM := Lib.hid hm
  have HK0 := Lib.hid k0
  have HK1 := Lib.hid k1
  have HB2 := Lib.hid hb2
  have HR := Lib.hid (fun (W : World) (hb : Below w.heap.size w W) => hrd.below hb)
  have HR' := Lib.hid (fun (W : World) (hb : Below w.heap.size w W) => hrd'.below hb)
  have a0 := k0.cell 0
  have a1 := k0.cell 1
  have a2 := k0.cell 2
  have b0 := k1.cell 0
  have b1 := k1.cell 1
  have b2 := k1.cell 2
  simp only [List.getElem?_toArray, List.getElem?_cons_zero, List.getElem?_cons_succ] at a0 a1 a2 b0 b1 b2
  clear hm hw2 k0 k1 hb2 hrd hrd'
  go_enter Tryd.func32, Tryd.ntmps32
  go_upto_region 1 with (fail)
  rw [← HW2.out]
  cases br with
  | true =>
    go_wp2_with fail
    go_loopw [5] (fun i wr => ∃ k : Nat, k ≤ m ∧ i = .int .i64 k ∧ Below w2.heap.size w2 wr) (fun i _ => m - (intOf i).toNat)
    case atStart => exact ⟨0, Nat.zero_le _, rfl, Below.refl _ _⟩
    case round =>
      obtain ⟨k, hk, rfl, hb⟩ := hrel
      have HB := Lib.hid hb
      replace a2 := cell_keep hb a2
      replace b2 := cell_keep hb b2
      clear a0 a1 b0 b1
      by_cases hlt : k < m
      · have hlt' : k < ps.length := by rw [← HM.out]; exact hlt
        have hbw := HB2.out.trans (hb.mono HB2.out.size)
        have hr := HR.out wr hbw
        have hr' := HR'.out wr hbw
        obtain ⟨b, o, hAe, -⟩ := hr.addr (by omega)
        subst hAe
        obtain ⟨b', o', hAe, -⟩ := hr'.addr (by omega)
        subst hAe
        have hbl : Below wr.heap.size wr (wr.alloc (.cells #[.int .i64 (ps[k]'hlt').kind, .int .i64 (ps[k]'hlt').pos, .int .i64 (ps[k]'hlt').n, .string { data := (ps[k]'hlt').s.toArray }] 88)) := (Below.refl _ _).alloc (Nat.le_refl _) _
        obtain ⟨d0, d1, d2, d3⟩ := RdL.cparts hr hlt'
        obtain ⟨e0, e1, e2, e3⟩ := RdL.cparts (hr'.below hbl) hlt'
        replace b2 := cell_keep hbl b2
        obtain ⟨p, hp⟩ : ∃ p, p = ps[k] := ⟨_, rfl⟩
        rw [← hp] at d0 d1 d2 d3 hbl b2
        rw [← hp] at e0 e1 e2 e3
        clear hr hr' hp hlt' hbw
        obtain ⟨wk, hwk⟩ : ∃ wk, wk = (wr.alloc (.cells #[.int .i64 p.kind, .int .i64 p.pos, .int .i64 p.n, .string { data := p.s.toArray }] 88)).alloc (.cells #[.int .i64 p.kind, .int .i64 p.pos, .int .i64 p.n, .string { data := p.s.toArray }] 88) := ⟨_, rfl⟩
        have HWK := Lib.hid hwk
        have HBK := Lib.hid (show Below wr.heap.size wr wk by rw [hwk]; exact below3 _ _ _)
        have kp : Blk wk wr.heap.size 88 #[.int .i64 p.kind, .int .i64 p.pos, .int .i64 p.n, .string { data := p.s.toArray }] := by rw [hwk]; exact (Blk.new wr _ _).below ((Below.refl _ _).alloc (Nat.le_refl _) _)
        have kq : Blk wk (wr.heap.size + 1) 88 #[.int .i64 p.kind, .int .i64 p.pos, .int .i64 p.n, .string { data := p.s.toArray }] := by
          rw [hwk]
          have := Blk.new (wr.alloc (.cells #[.int .i64 p.kind, .int .i64 p.pos, .int .i64 p.n, .string { data := p.s.toArray }] 88)) 88 #[.int .i64 p.kind, .int .i64 p.pos, .int .i64 p.n, .string { data := p.s.toArray }]
          rwa [alloc_size] at this
        have p0 := kp.cell 0
        have p1 := kp.cell 1
        have p2 := kp.cell 2
        have p3 := kp.cell 3
        have q0 := kq.cell 0
        have q1 := kq.cell 1
        have q2 := kq.cell 2
        have q3 := kq.cell 3
        simp only [List.getElem?_toArray, List.getElem?_cons_zero, List.getElem?_cons_succ] at p0 p1 p2 p3 q0 q1 q2 q3
        clear hwk kp kq hbl hb
        go_upto_region 8 with (fail)
        rw [← HWK.out]
        clear HWK d0 d1 d2 d3 e0 e1 e2 e3 a2 b2
        go_wp2_with fail
        go_roundw
        case rel => exact ⟨k + 1, by omega, by go_num, HB.out.trans (HBK.out.mono HB.out.size)⟩
        case measure => simp [intOf]; omega
      · obtain rfl : k = m := by omega
        go_wp2_with fail
        go_ret
        exact ⟨rfl, HB2.out.trans (hb.mono HB2.out.size)⟩
  | false =>
    go_wp2_with fail
    go_loopw [5] (fun i wr => ∃ k : Nat, k ≤ m ∧ i = .int .i64 k ∧ Below w2.heap.size w2 wr) (fun i _ => m - (intOf i).toNat)
    case atStart => exact ⟨0, Nat.zero_le _, rfl, Below.refl _ _⟩
    case round =>
      obtain ⟨k, hk, rfl, hb⟩ := hrel
      have HB := Lib.hid hb
      replace a2 := cell_keep hb a2
      replace b2 := cell_keep hb b2
      clear a0 a1 b0 b1
      by_cases hlt : k < m
      · have hlt' : k < ps.length := by rw [← HM.out]; exact hlt
        have hbw := HB2.out.trans (hb.mono HB2.out.size)
        have hr := HR.out wr hbw
        have hr' := HR'.out wr hbw
        obtain ⟨b, o, hAe, -⟩ := hr.addr (by omega)
        subst hAe
        obtain ⟨b', o', hAe, -⟩ := hr'.addr (by omega)
        subst hAe
        have hbl : Below wr.heap.size wr (wr.alloc (.cells #[.int .i64 (ps[k]'hlt').kind, .int .i64 (ps[k]'hlt').pos, .int .i64 (ps[k]'hlt').n, .string { data := (ps[k]'hlt').s.toArray }] 88)) := (Below.refl _ _).alloc (Nat.le_refl _) _
        obtain ⟨d0, d1, d2, d3⟩ := RdL.cparts hr hlt'
        obtain ⟨e0, e1, e2, e3⟩ := RdL.cparts (hr'.below hbl) hlt'
        replace b2 := cell_keep hbl b2
        obtain ⟨p, hp⟩ : ∃ p, p = ps[k] := ⟨_, rfl⟩
        rw [← hp] at d0 d1 d2 d3 hbl b2
        rw [← hp] at e0 e1 e2 e3
        clear hr hr' hp hlt' hbw
        obtain ⟨wk, hwk⟩ : ∃ wk, wk = (wr.alloc (.cells #[.int .i64 p.kind, .int .i64 p.pos, .int .i64 p.n, .string { data := p.s.toArray }] 88)).alloc (.cells #[.int .i64 p.kind, .int .i64 p.pos, .int .i64 p.n, .string { data := p.s.toArray }] 88) := ⟨_, rfl⟩
        have HWK := Lib.hid hwk
        have HBK := Lib.hid (show Below wr.heap.size wr wk by rw [hwk]; exact below3 _ _ _)
        have kp : Blk wk wr.heap.size 88 #[.int .i64 p.kind, .int .i64 p.pos, .int .i64 p.n, .string { data := p.s.toArray }] := by rw [hwk]; exact (Blk.new wr _ _).below ((Below.refl _ _).alloc (Nat.le_refl _) _)
        have kq : Blk wk (wr.heap.size + 1) 88 #[.int .i64 p.kind, .int .i64 p.pos, .int .i64 p.n, .string { data := p.s.toArray }] := by
          rw [hwk]
          have := Blk.new (wr.alloc (.cells #[.int .i64 p.kind, .int .i64 p.pos, .int .i64 p.n, .string { data := p.s.toArray }] 88)) 88 #[.int .i64 p.kind, .int .i64 p.pos, .int .i64 p.n, .string { data := p.s.toArray }]
          rwa [alloc_size] at this
        have p0 := kp.cell 0
        have p1 := kp.cell 1
        have p2 := kp.cell 2
        have p3 := kp.cell 3
        have q0 := kq.cell 0
        have q1 := kq.cell 1
        have q2 := kq.cell 2
        have q3 := kq.cell 3
        simp only [List.getElem?_toArray, List.getElem?_cons_zero, List.getElem?_cons_succ] at p0 p1 p2 p3 q0 q1 q2 q3
        clear hwk kp kq hbl hb
        go_upto_region 8 with (fail)
        rw [← HWK.out]
        clear HWK d0 d1 d2 d3 e0 e1 e2 e3 a2 b2
        go_wp2_with fail
        go_roundw
        case rel => exact ⟨k + 1, by omega, by go_num, HB.out.trans (HBK.out.mono HB.out.size)⟩
        case measure => simp [intOf]; omega
      · obtain rfl : k = m := by omega
        go_wp2_with fail
        go_ret
        exact ⟨rfl, HB2.out.trans (hb.mono HB2.out.size)⟩
end Go.Proofs.YtlhpflilpdceiaaDoor
