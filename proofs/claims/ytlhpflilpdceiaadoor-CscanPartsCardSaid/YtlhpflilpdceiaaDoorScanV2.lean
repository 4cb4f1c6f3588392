/- The walk over the law's own made: commands as the document has them. Bounds on the lengths. -/
import Derived.Test.YtlhpflilpdceiaaDoorScanV1
import Derived.Test.YtlhpflilpdceiaaDoorPh
set_option linter.unusedVariables false
set_option linter.unusedSimpArgs false
namespace Go.Proofs.YtlhpflilpdceiaaDoor
open Go.RowKit

def okWs (l : List CWord) : Prop := l.length ≤ 100000 ∧ ∀ x ∈ l, x.parts.length ≤ 100000
def okCs (l : List CCmd) : Prop := l.length ≤ 100000 ∧ ∀ c ∈ l, okWs c.words
/-- The stages of 'c.Words = append(c.Words, word(..))'. -/
def mdI (w1 wi : World) (g pos j : Nat) (old : Value) (ws : List CWord) (x : CWord) : List Value → World → Prop
  | [], y => Below wi.heap.size wi y
  | [v1], y => Below wi.heap.size wi y ∧ ∃ v', v1 = .agg #[.int .i64 x.pos, .bool x.braced, v'] ∧ OwnP tP5 y w1.heap.size v' x.parts
  | [v1, v2], y => ∃ wk v', v1 = .agg #[.int .i64 x.pos, .bool x.braced, v'] ∧ v2 = .slice (some ⟨wk.heap.size, 0, none⟩) 1 1 ∧ y = wk.alloc (.cells #[.int .i64 x.pos, .bool x.braced, v'] tW5) ∧ Below wi.heap.size wi wk ∧ OwnP tP5 wk w1.heap.size v' x.parts
  | [_, _, v3], y => ∃ A4 c4, v3 = .slice A4 (j + 1) c4 ∧ OwnW tP5 tW5 y w1.heap.size v3 (ws.take (j + 1)) ∧ But g w1 y ∧ Blk y g tC5 #[.int .i64 pos, old]
  | [_, _, v3, _], y => ∃ A4 c4, v3 = .slice A4 (j + 1) c4 ∧ OwnW tP5 tW5 y w1.heap.size v3 (ws.take (j + 1)) ∧ But g w1 y ∧ Blk y g tC5 #[.int .i64 pos, v3]
  | _, _ => False
theorem mdI_old {w1 wi : World} {g pos j : Nat} {old : Value} {ws : List CWord} {x : CWord} {n : Nat} (hn : n = 2) : ∀ (kv : List Value) (y : World), kv.length ≤ n → mdI w1 wi g pos j old ws x kv y → Below wi.heap.size wi y := by
  subst hn
  intro kv y hl h
  match kv, hl, h with
  | [], _, h => exact h
  | [v1], _, h => exact h.1
  | [v1, v2], _, ⟨wk, v', _, _, he, hb, _⟩ =>
    subst he
    exact hb.alloc hb.size _
  | _ :: _ :: _ :: _, hl, _ => simp at hl
set_option maxRecDepth 100000 in
set_option maxHeartbeats 8000000 in
theorem made_any (l : List CCmd) (v : Value) (w : World) (h : RdC w v l) (hok : okCs l) : Calls Tryd.prog 15 #[v] w fun e w' => ∃ v', e = .returned v' ∧ OwnC tP5 tW5 tC5 w' w.heap.size v' l ∧ Below w.heap.size w w' := by
  obtain ⟨iW, hinfW, hzW0, hzW1, hzW2⟩ := info_parts infoWord5
  obtain ⟨iC, hinfC, hzC0, hzC1, hzC2⟩ := info_parts infoCmd5
  have HV := Lib.hid h
  obtain ⟨A, c, vs0, rfl, -⟩ := h
  obtain ⟨n, hn⟩ : ∃ n, n = l.length := ⟨_, rfl⟩
  have hn1 : n ≤ 100000 := by rw [hn]; exact hok.1
  have HN := Lib.hid hn
  have HOK := Lib.hid hok.2
  rw [← hn] at HV ⊢
  clear hn hok
  go_enter Tryd.func15, Tryd.ntmps15
  go_wp2_with fail
  go_loopw [3, 4] (fun u i wr => ∃ (k : Nat) (A' : Option Addr) (c' : Nat), k ≤ n ∧ i = .int .i64 k ∧ u = .slice A' k c' ∧ OwnC tP5 tW5 tC5 wr w.heap.size (.slice A' k c') (l.take k) ∧ Below w.heap.size w wr) (fun _ i _ => n - (intOf i).toNat)
  case atStart => exact ⟨0, none, 0, Nat.zero_le _, rfl, rfl, OwnC.nil _ _, Below.refl _ _⟩
  case round =>
    obtain ⟨k, A', c', hk, rfl, rfl, ho, hb⟩ := hrel
    have HO := Lib.hid ho
    have HB := Lib.hid hb
    clear ho hb
    by_cases hlt : k < n
    · have hlt' : k < l.length := by rw [← HN.out]; exact hlt
      have HF := Lib.hid (show l.take (k + 1) = l.take k ++ [l[k]] from List.take_succ_eq_append_getElem hlt')
      obtain ⟨b, o, c2, vw, hA, d0, d1, hw1⟩ := (HV.out.below HB.out).at_ hlt'
      injection hA with hA1 hA2 hA3
      subst hA1 hA3
      clear hA2
      have HOKW := Lib.hid (HOK.out _ (List.getElem_mem hlt'))
      obtain ⟨x, hx⟩ : ∃ x, x = l[k] := ⟨_, rfl⟩
      rw [← hx] at HF d0 hw1 HOKW
      obtain ⟨pos, ws⟩ := x
      simp only at d0 d1 hw1 HOKW
      have HW := Lib.hid hw1
      obtain ⟨Aw, cw, vsw, rfl, -⟩ := hw1
      obtain ⟨q, hq⟩ : ∃ q, q = ws.length := ⟨_, rfl⟩
      have hq1 : q ≤ 100000 := by rw [hq]; exact HOKW.out.1
      have HQ := Lib.hid hq
      rw [← hq] at HW d1
      have dd1 := d1
      clear hx hq hlt'
      go_upto_region 6 with (fail)
      have hb1 : Below wr.heap.size wr (wr.alloc (.cells #[.int .i64 pos, .slice none 0 0] 41)) := (Below.refl _ _).alloc (Nat.le_refl _) _
      have hC := Blk.new wr 41 #[.int .i64 pos, .slice none 0 0]
      have HS1 := Lib.hid (alloc_size wr (.cells #[.int .i64 pos, .slice none 0 0] 41))
      obtain ⟨g, hg⟩ : ∃ g, g = wr.heap.size := ⟨_, rfl⟩
      have HG := Lib.hid hg
      rw [← hg] at hC ⊢
      clear hg d0 d1
      have d1 := cell_keep hb1 dd1
      generalize wr.alloc (.cells #[.int .i64 pos, .slice none 0 0] 41) = w1 at *
      have HB1 := Lib.hid hb1
      have HC := Lib.hid hC
      clear hb1 hC
      generalize wr = wo at *
      go_wp2_with fail
      go_loopw [6] (fun i wr => ∃ (j : Nat) (A2 : Option Addr) (c2 : Nat), j ≤ q ∧ i = .int .i64 j ∧ Blk wr g 41 #[.int .i64 pos, .slice A2 j c2] ∧ OwnW tP5 tW5 wr w1.heap.size (.slice A2 j c2) (ws.take j) ∧ But g w1 wr) (fun i _ => q - (intOf i).toNat)
      case atStart => exact ⟨0, none, 0, Nat.zero_le _, rfl, HC.out, OwnW.nil _ _, But.refl _ _⟩
      case round =>
        obtain ⟨j, A2, c2, hj, rfl, hC, hO, hB⟩ := hrel
        obtain ⟨wi, hwi⟩ : ∃ wi, wi = wr := ⟨_, rfl⟩
        subst hwi
        have hbt := hB.below (n := wo.heap.size) (by rw [HG.out]; exact Nat.le_refl _) HB1.out.size
        have hbw := HB.out.trans ((HB1.out.trans hbt).mono HB.out.size)
        have HBW := Lib.hid hbw
        have hHW := HW.out.below (HB1.out.trans hbt)
        have e1 := cell_keep (HB1.out.trans hbt) dd1
        have c1 := hC.cell 1
        have c0 := hC.cell 0
        simp only [List.getElem?_toArray, List.getElem?_cons_zero, List.getElem?_cons_succ] at c0 c1
        have HCI := Lib.hid hC
        have HOI := Lib.hid hO
        have HBI := Lib.hid hB
        clear hC hO hB d1 hbt hbw
        by_cases hjq : j < q
        · have hjq' : j < ws.length := by rw [← HQ.out]; exact hjq
          obtain ⟨b3, o3, c3, vp, hA3, f0, f1, f2, hp⟩ := hHW.at_ hjq'
          injection hA3 with hA31 hA32 hA33
          subst hA31 hA33
          clear hA32
          have HF2 := Lib.hid (show ws.take (j + 1) = ws.take j ++ [ws[j]] from List.take_succ_eq_append_getElem hjq')
          have HPL := Lib.hid (HOKW.out.2 _ (List.getElem_mem hjq'))
          have HP := Lib.hid hp
          obtain ⟨x, hx⟩ : ∃ x, x = ws[j] := ⟨_, rfl⟩
          rw [← hx] at HF2 f0 HPL HP
          rw [← hx] at f1
          clear hx hp hjq'
          have HWD := Lib.hid (fun (y : World) (hy : Below wi.heap.size wi y) => word15_any x vp y (HP.out.below hy) HPL.out)
          have HF2' := HF2
          have HC1 := Lib.hid (fun (kv : List Value) (y : World) (hl : kv.length ≤ 2) (hI : mdI w1 wi g pos j (.slice A2 j c2) ws x kv y) => cell_keep (mdI_old rfl kv y hl hI) c1)
          have HE1 := Lib.hid (fun (kv : List Value) (y : World) (hl : kv.length ≤ 2) (hI : mdI w1 wi g pos j (.slice A2 j c2) ws x kv y) => cell_keep (mdI_old rfl kv y hl hI) e1)
          have HX0 := Lib.hid (fun (kv : List Value) (y : World) (hl : kv.length ≤ 2) (hI : mdI w1 wi g pos j (.slice A2 j c2) ws x kv y) => cell_keep (mdI_old rfl kv y hl hI) f0)
          have HX1 := Lib.hid (fun (kv : List Value) (y : World) (hl : kv.length ≤ 2) (hI : mdI w1 wi g pos j (.slice A2 j c2) ws x kv y) => cell_keep (mdI_old rfl kv y hl hI) f1)
          have HX2 := Lib.hid (fun (kv : List Value) (y : World) (hl : kv.length ≤ 2) (hI : mdI w1 wi g pos j (.slice A2 j c2) ws x kv y) => cell_keep (mdI_old rfl kv y hl hI) f2)
          have hwz := HBI.out.size
          clear hHW
          go_upto_region 9 with (fail)
          clear c0 c1 e1 f0 f1 f2 dd1
          apply wp_region_ph [10, 11, 12, 14] (mdI w1 wi g pos j (.slice A2 j c2) ws x) [opE _, opE _, opE _, opE _, opE _, opE _, opE _, opE _, opE _, opE _, .key (fun v => ∃ v', v = .agg #[.int .i64 x.pos, .bool x.braced, v']) ⟨_, undef, rfl⟩, .key (fun v => ∃ m, v = .slice (some ⟨m, 0, none⟩) 1 1) ⟨_, 0, rfl⟩, .key (fun v => ∃ A4 c4, v = .slice A4 (j + 1) c4) ⟨_, none, 0, rfl⟩, opE _, keyAny] (by kernel_rfl) (by kernel_rfl) (by kernel_rfl) rfl rfl
          focus
            exact (Below.refl _ _).drew
          focus
            refine ⟨?_, ?_⟩
            focus
              refine phOp (by kernel_rfl) fun kv x hlo hhi hI K hk => ?_
              clear hlo hhi
              have HI := Lib.hid hI
              clear hI
              go_wp2_with fail
              exact hk _ _ rfl HI.out
            rintro _ rfl
            simp only [Act.put, List.setIfInBounds_toArray, List.set_cons_succ, List.set_cons_zero]
            refine ⟨?_, ?_⟩
            focus
              refine phOp (by kernel_rfl) fun kv x hlo hhi hI K hk => ?_
              have l0 := HC1.out kv x (phHi_le hhi (by kernel_rfl)) hI
              have HI := Lib.hid hI
              clear hI hlo hhi
              go_wp2_with fail
              exact hk _ _ rfl HI.out
            rintro _ rfl
            simp only [Act.put, List.setIfInBounds_toArray, List.set_cons_succ, List.set_cons_zero]
            refine ⟨?_, ?_⟩
            focus
              refine phOp (by kernel_rfl) fun kv x hlo hhi hI K hk => ?_
              clear hlo hhi
              have HI := Lib.hid hI
              clear hI
              go_wp2_with fail
              exact hk _ _ rfl HI.out
            rintro _ rfl
            simp only [Act.put, List.setIfInBounds_toArray, List.set_cons_succ, List.set_cons_zero]
            refine ⟨?_, ?_⟩
            focus
              refine phOp (by kernel_rfl) fun kv x hlo hhi hI K hk => ?_
              clear hlo hhi
              have HI := Lib.hid hI
              clear hI
              go_wp2_with fail
              exact hk _ _ rfl HI.out
            rintro _ rfl
            simp only [Act.put, List.setIfInBounds_toArray, List.set_cons_succ, List.set_cons_zero]
            refine ⟨?_, ?_⟩
            focus
              refine phOp (by kernel_rfl) fun kv x hlo hhi hI K hk => ?_
              clear hlo hhi
              have HI := Lib.hid hI
              clear hI
              go_wp2_with fail
              exact hk _ _ rfl HI.out
            rintro _ rfl
            simp only [Act.put, List.setIfInBounds_toArray, List.set_cons_succ, List.set_cons_zero]
            refine ⟨?_, ?_⟩
            focus
              refine phOp (by kernel_rfl) fun kv x hlo hhi hI K hk => ?_
              clear hlo hhi
              have HI := Lib.hid hI
              clear hI
              go_wp2_with fail
              exact hk _ _ rfl HI.out
            rintro _ rfl
            simp only [Act.put, List.setIfInBounds_toArray, List.set_cons_succ, List.set_cons_zero]
            refine ⟨?_, ?_⟩
            focus
              refine phOp (by kernel_rfl) fun kv x hlo hhi hI K hk => ?_
              have l0 := HE1.out kv x (phHi_le hhi (by kernel_rfl)) hI
              have HI := Lib.hid hI
              clear hI hlo hhi
              go_wp2_with fail
              exact hk _ _ rfl HI.out
            rintro _ rfl
            simp only [Act.put, List.setIfInBounds_toArray, List.set_cons_succ, List.set_cons_zero]
            refine ⟨?_, ?_⟩
            focus
              refine phOp (by kernel_rfl) fun kv x hlo hhi hI K hk => ?_
              clear hlo hhi
              have HI := Lib.hid hI
              clear hI
              go_wp2_with fail
              exact hk _ _ rfl HI.out
            rintro _ rfl
            simp only [Act.put, List.setIfInBounds_toArray, List.set_cons_succ, List.set_cons_zero]
            refine ⟨?_, ?_⟩
            focus
              refine phOp (by kernel_rfl) fun kv x hlo hhi hI K hk => ?_
              clear hlo hhi
              have HI := Lib.hid hI
              clear hI
              go_wp2_with fail
              exact hk _ _ rfl HI.out
            rintro _ rfl
            simp only [Act.put, List.setIfInBounds_toArray, List.set_cons_succ, List.set_cons_zero]
            refine ⟨?_, ?_⟩
            focus
              refine phOp (by kernel_rfl) fun kv x hlo hhi hI K hk => ?_
              have l0 := HX0.out kv x (phHi_le hhi (by kernel_rfl)) hI
              have l1 := HX1.out kv x (phHi_le hhi (by kernel_rfl)) hI
              have l2 := HX2.out kv x (phHi_le hhi (by kernel_rfl)) hI
              have HI := Lib.hid hI
              clear hI hlo hhi
              go_wp2_with fail
              exact hk _ _ rfl HI.out
            rintro _ rfl
            simp only [Act.put, List.setIfInBounds_toArray, List.set_cons_succ, List.set_cons_zero]
            refine ⟨?_, ?_⟩
            focus
              refine phKey (by kernel_rfl) fun y hI K hk => ?_
              have HI := Lib.hid (show Below wi.heap.size wi y from hI)
              clear hI
              go_wp2_with fail
              refine (HWD.out y HI.out).mono ?_
              rintro e y' ⟨v', rfl, hv', hb'⟩
              exact hk _ _ ⟨_, rfl⟩ ⟨HI.out.trans (hb'.mono HI.out.size), v', rfl, hv'.mono (Nat.le_trans hwz HI.out.size)⟩
            rintro _ ⟨v1, rfl⟩
            simp only [Act.put, List.setIfInBounds_toArray, List.set_cons_succ, List.set_cons_zero]
            refine ⟨?_, ?_⟩
            focus
              refine phKey (by kernel_rfl) fun y hI K hk => ?_
              have HI := Lib.hid hI
              clear hI
              go_wp2_with fail
              obtain ⟨hb, v', he, hO⟩ := HI.out
              obtain rfl : v1 = v' := by simpa using he
              exact hk _ _ ⟨_, rfl⟩ ⟨y, v1, rfl, rfl, rfl, hb, hO⟩
            rintro _ ⟨m, rfl⟩
            simp only [Act.put, List.setIfInBounds_toArray, List.set_cons_succ, List.set_cons_zero]
            refine ⟨?_, ?_⟩
            focus
              refine phKey (by kernel_rfl) fun y hI K hk => ?_
              obtain ⟨wk, v', he, hm, rfl, hb, hO⟩ := hI
              obtain rfl : v1 = v' := by simpa using he
              obtain rfl : m = wk.heap.size := by simpa using hm
              obtain ⟨vs2, g1, g2, g3⟩ := HOI.out
              obtain ⟨A6, c6, rfl, -, -, -, -⟩ := own_form hO
              have hln : (ws.take j).length = j := take_len (by rw [← HQ.out]; omega)
              rw [hln] at g2
              refine wp_push _ _ _ rfl Tryd.underlying39 hinfW hzW0 hzW1 hzW2 rfl (by decide) (own_below g2 hb) rfl rfl rfl (by simp [Value.oneCell']) (by omega) (by decide) (Nat.le_trans hwz hb.size) ?_
              intro A4 c4 w4 ho4 hb4 hoo4
              refine hk _ _ ⟨_, _, rfl⟩ ⟨A4, c4, rfl, ?_, ?_, ?_⟩
              · rw [HF2.out]
                refine OwnW.push (x := x) (l := ws.take j) g1 (by rw [hln]; exact ho4) (fun p hp => ((g3 p hp).below hb).others hoo4 (by decide)) (hO.others hoo4 (by decide))
              · exact (HBI.out.trans (But.of hb)).of2 hb4
              · exact (HCI.out.below hb).others hoo4 (by decide)
            rintro _ ⟨A4, c4, rfl⟩
            simp only [Act.put, List.setIfInBounds_toArray, List.set_cons_succ, List.set_cons_zero]
            refine ⟨?_, ?_⟩
            focus
              refine phOp (by kernel_rfl) fun kv x hlo hhi hI K hk => ?_
              clear hlo hhi
              have HI := Lib.hid hI
              clear hI
              go_wp2_with fail
              exact hk _ _ rfl HI.out
            rintro _ rfl
            simp only [Act.put, List.setIfInBounds_toArray, List.set_cons_succ, List.set_cons_zero]
            refine ⟨?_, ?_⟩
            focus
              refine phKey (by kernel_rfl) fun y hI K hk => ?_
              obtain ⟨A5, c5, he, hO, hB5, hC5⟩ := hI
              simp only [Value.slice.injEq, true_and] at he
              obtain ⟨rfl, rfl⟩ := he
              have z1 := hC5.cell 1
              have z2 := hC5.frozen 1
              simp only [List.getElem?_toArray, List.getElem?_cons_zero, List.getElem?_cons_succ] at z1
              have HO5 := Lib.hid (hO.but (But.set _ 1 (.slice A4 (j + 1) c4)) hC5 (by decide) (by decide))
              have HB5 := Lib.hid (hB5.trans (But.set _ 1 (.slice A4 (j + 1) c4)))
              have HC5 := Lib.hid (hC5.set 1 (.slice A4 (j + 1) c4))
              clear hO hB5 hC5
              go_wp2_with fail
              exact hk undef _ trivial ⟨A4, c4, rfl, HO5.out, HB5.out, HC5.out⟩
            rintro v4 -
            simp only [Act.put, List.setIfInBounds_toArray, List.set_cons_succ, List.set_cons_zero]
            intro y hI
            obtain ⟨A5, c5, he, hO, hB5, hC5⟩ := hI
            simp only [Value.slice.injEq, true_and] at he
            obtain ⟨rfl, rfl⟩ := he
            go_wp2_with fail
            go_roundw
            case rel => exact ⟨j + 1, A4, c4, by omega, by go_num, hC5, hO, hB5⟩
            case measure => simp [intOf]; omega
        · obtain rfl : j = q := by omega
          have HL := Lib.hid (show ws.take j = ws by rw [HQ.out, List.take_length])
          obtain ⟨vs4, e41, o4, e42⟩ := HO.out
          have hln : (l.take k).length = k := take_len (by rw [← HN.out]; omega)
          rw [hln] at o4
          have ho4 := own_below o4 (HB1.out.trans (HBI.out.below (n := wo.heap.size) (by rw [HG.out]; exact Nat.le_refl _) HB1.out.size))
          have hbz := HBW.out.size
          have HLN := Lib.hid hln
          have HOW := Lib.hid (show OwnW tP5 tW5 wi w.heap.size (.slice A2 j c2) ws by
            have := HOI.out
            rw [HL.out] at this
            exact this.mono (by have h1 := HB.out.size; have h2 := HB1.out.size; omega))
          have HE42 := Lib.hid (show ∀ p ∈ vs4, OwnW tP5 tW5 wi w.heap.size p.2 p.1.words from fun p hp => (e42 p hp).below (HB1.out.trans (HBI.out.below (n := wo.heap.size) (by rw [HG.out]; exact Nat.le_refl _) HB1.out.size)))
          clear hln o4 e42 hHW dd1
          go_wp2_with (at_builtin; refine wpList_push rfl _ _ _ rfl Tryd.underlying42 hinfC hzC0 hzC1 hzC2 rfl (by decide) ho4 rfl rfl rfl (by simp [Value.oneCell']) (by omega) (by decide) hbz ?_; intro A5 c5 w5 ho5 hb5 hoo5)
          go_roundw
          case rel =>
            refine ⟨k + 1, A5, c5, by omega, by go_num, rfl, ?_, HBW.out.trans hb5⟩
            rw [HF.out]
            exact OwnC.push (x := ⟨pos, ws⟩) (l := l.take k) e41 (by rw [HLN.out]; exact ho5) (fun p hp => (HE42.out p hp).others hoo5 (by decide) (by decide)) (HOW.out.others hoo5 (by decide) (by decide))
          case measure => simp [intOf]; omega
    · obtain rfl : k = n := by omega
      have HL := Lib.hid (show l.take k = l by rw [HN.out, List.take_length])
      go_wp2_with fail
      go_ret
      have ho := HO.out
      rw [HL.out] at ho
      exact ⟨_, rfl, ho, HB.out⟩
end Go.Proofs.YtlhpflilpdceiaaDoor
