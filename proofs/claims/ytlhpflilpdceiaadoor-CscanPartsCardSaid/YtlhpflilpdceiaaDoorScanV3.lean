/- The walks over the law's own shifted and over patoisref15.SameCommands (at one list). Bounds on the lengths. -/
import Derived.Test.YtlhpflilpdceiaaDoorScanV2
set_option linter.unusedVariables false
set_option linter.unusedSimpArgs false
namespace Go.Proofs.YtlhpflilpdceiaaDoor
open Go.RowKit

theorem own_set_other {w : World} {base : Nat} {e : TypeId} {sz n : Nat} {v : Value} {xs : List Value} (h : w.ownsRow base e sz v n xs) {p : Addr} (hp : ∀ k, v.ownBlock = some k → k ≠ p.block) (u : Value) : (w.setCell p u).ownsRow base e sz v n xs := by
  refine ⟨h.1, ?_⟩
  rcases h.2 with hn | ⟨g, cap, cur, rfl, hb', hg, rest⟩
  · exact .inl hn
  · exact .inr ⟨g, cap, cur, rfl, hb', (Below.heap_setCell _ _ _ _ (hp g rfl)).trans hg, rest⟩
theorem Blk.set2 {w : World} {g : Nat} {t : TypeId} {a b : Value} (h : Blk w g t #[a, b]) (a' b' : Value) : Blk ((w.setCell ⟨g, 0, none⟩ a').setCell ⟨g, 1, none⟩ b') g t #[a', b'] := by
  simpa using (h.set 0 a').set 1 b'
theorem But.set2 (g : Nat) (x : World) (a b : Value) : But g x ((x.setCell ⟨g, 0, none⟩ a).setCell ⟨g, 1, none⟩ b) := (But.set _ 0 _).trans (But.set _ 1 _)
/-- The stages of 'w := Word{..}'. -/
def shI (wo : World) (pos d : Nat) (br : Bool) : List Value → World → Prop
  | [], y => y = { wo with drawn := wo.drawn + 1 }
  | [_], y => Blk y wo.heap.size tW5 #[.int .i64 0, .bool false, .slice none 0 0] ∧ Below wo.heap.size wo y ∧ y.heap.size = wo.heap.size + 1
  | [_, _], y => Blk y wo.heap.size tW5 #[.int .i64 ((pos : Int) + d), .bool br, .slice none 0 0] ∧ Below wo.heap.size wo y ∧ y.heap.size = wo.heap.size + 1
  | _, _ => False
theorem shI_below {wo : World} {pos d : Nat} {br : Bool} {n : Nat} (hn : n = 2) : ∀ (kv : List Value) (y : World), kv.length ≤ n → shI wo pos d br kv y → Below wo.heap.size wo y := by
  subst hn
  intro kv y hl h
  match kv, hl, h with
  | [], _, h =>
    have h' : y = { wo with drawn := wo.drawn + 1 } := h
    rw [h']
    exact (Below.refl _ _).drew
  | [_], _, h => exact h.2.1
  | [_, _], _, h => exact h.2.1
  | _ :: _ :: _ :: _, hl, _ => simp at hl
set_option maxRecDepth 100000 in
set_option maxHeartbeats 8000000 in
theorem shifted_any (c : CCmd) (d N : Nat) (v : Value) (w : World) (h : RdW w v c.words) (hs : smallC N c) (hN : N ≤ 100000) (hd : d ≤ 100000) : Calls Tryd.prog 16 #[.agg #[.int .i64 c.pos, v], .int .i64 d] w fun e w' => ∃ v', e = .returned (.agg #[.int .i64 (shC d c).pos, v']) ∧ OwnW tP5 tW5 w' w.heap.size v' (shC d c).words ∧ Below w.heap.size w w' := by
  obtain ⟨iP, hinfP, hzP0, hzP1, hzP2⟩ := info_parts infoPart5
  obtain ⟨iW, hinfW, hzW0, hzW1, hzW2⟩ := info_parts infoWord5
  obtain ⟨pos, ws⟩ := c
  obtain ⟨hs1, hs2, hs3⟩ := hs
  simp only [shC] at h hs1 hs2 hs3 ⊢
  have HSW := Lib.hid hs3
  have HV := Lib.hid h
  obtain ⟨A, cw, vs0, rfl, -⟩ := h
  obtain ⟨q, hq⟩ : ∃ q, q = ws.length := ⟨_, rfl⟩
  rw [← hq] at hs2 HV ⊢
  have HQ := Lib.hid hq
  obtain ⟨w3, hw3⟩ : ∃ w3, w3 = ((w.alloc (.cells #[.int .i64 pos, .slice A q cw] 41)).alloc (.cells #[.int .i64 0, .slice none 0 0] 41)).alloc (.cells #[.int .i64 ((pos : Int) + d), .slice none 0 0] 41) := ⟨_, rfl⟩
  have HW3 := Lib.hid hw3
  obtain ⟨k0, k1, k2, hb3, hz3⟩ := blk3 hw3
  have HK0 := Lib.hid k0
  have HK1 := Lib.hid k1
  have HK2 := Lib.hid k2
  have HB3 := Lib.hid hb3
  have HZ3 := Lib.hid hz3
  clear k0 k1 k2 hb3 hz3 hw3 hq hs3
  go_enter Tryd.func16, Tryd.ntmps16
  go_upto_region 2 with (fail)
  rw [← HW3.out]
  go_wp2_with fail
  go_loopw [6] (fun i wr => ∃ (k : Nat) (A' : Option Addr) (c' : Nat), k ≤ q ∧ i = .int .i64 k ∧ Blk wr (w.heap.size + 2) tC5 #[.int .i64 ((pos : Int) + d), .slice A' k c'] ∧ OwnW tP5 tW5 wr w3.heap.size (.slice A' k c') ((ws.take k).map (shW d)) ∧ But (w.heap.size + 2) w3 wr) (fun i _ => q - (intOf i).toNat)
  case atStart => exact ⟨0, none, 0, Nat.zero_le _, rfl, HK2.out, OwnW.nil _ _, But.refl _ _⟩
  case round =>
    obtain ⟨k, A', c', hk, rfl, hQ, ho, hB⟩ := hrel
    have hBz := hB.size
    have hz3 := HZ3.out
    have HGQ := Lib.hid (show w.heap.size + 2 < wr.heap.size by omega)
    have k0 := hB.blk HK0.out (by omega)
    have k1 := hB.blk HK1.out (by omega)
    have b1 := k0.cell 1
    have q1 := hQ.cell 1
    simp only [List.getElem?_toArray, List.getElem?_cons_zero, List.getElem?_cons_succ] at b1 q1
    have HBW := Lib.hid (HB3.out.trans (hB.below (n := w.heap.size) (by omega) (by omega)))
    have HBT := Lib.hid hB
    have HQB := Lib.hid hQ
    have HO := Lib.hid ho
    clear hB hQ ho
    by_cases hlt : k < q
    · have hlt' : k < ws.length := by rw [← HQ.out]; exact hlt
      obtain ⟨b, o, c2, vp, hA, d0, d1, d2, hp⟩ := (HV.out.below HBW.out).at_ hlt'
      injection hA with hA1 hA2 hA3
      subst hA1 hA3
      clear hA2
      have HF := Lib.hid (show (ws.take (k + 1)).map (shW d) = (ws.take k).map (shW d) ++ [shW d ws[k]] by rw [List.take_succ_eq_append_getElem hlt', List.map_append]; rfl)
      have HSX := Lib.hid (HSW.out _ (List.getElem_mem hlt'))
      obtain ⟨x, hx⟩ : ∃ x, x = ws[k] := ⟨_, rfl⟩
      rw [← hx] at HF d0 hp HSX
      rw [← hx] at d1
      clear hx hlt'
      obtain ⟨xp, xb, ps⟩ := x
      simp only [shW] at HF d0 d1 d2 hp HSX
      have hxp : xp ≤ 100000 := Nat.le_trans HSX.out.1 hN
      have HP := Lib.hid hp
      obtain ⟨Ap, cp, rfl, -⟩ := hp
      obtain ⟨r, hr⟩ : ∃ r, r = ps.length := ⟨_, rfl⟩
      have hr1 : r ≤ 100000 := by rw [hr]; exact Nat.le_trans HSX.out.2.1 hN
      have HR := Lib.hid hr
      rw [← hr] at d2 HP
      clear hr
      have HXP := Lib.hid (show ∀ p ∈ ps, p.pos ≤ 100000 from fun p hp => Nat.le_trans (HSX.out.2.2 p hp).1 hN)
      generalize wr = wo at *
      have HD2 := Lib.hid d2
      have HD0 := Lib.hid (fun (kv : List Value) (y : World) (hl : kv.length ≤ 2) (hI : shI wo xp d xb kv y) => cell_keep (shI_below rfl kv y hl hI) d0)
      have HD1 := Lib.hid (fun (kv : List Value) (y : World) (hl : kv.length ≤ 2) (hI : shI wo xp d xb kv y) => cell_keep (shI_below rfl kv y hl hI) d1)
      have HE1 := Lib.hid (fun (kv : List Value) (y : World) (hl : kv.length ≤ 2) (hI : shI wo xp d xb kv y) => cell_keep (shI_below rfl kv y hl hI) b1)
      have HBB := Lib.hid b1
      go_upto_region 5 with (fail)
      clear b1 q1 k0 k1 d0 d1 d2
      apply wp_region_ph [15, 16] (shI wo xp d xb) [opE _, opE _, opE _, opE _, opE _, opE _, opE _, opE _, opE _, opE _, opE _, opE _, opE _, opE _, opE _, keyE (.pointer (some ⟨wo.heap.size, 0, none⟩)), keyAny] (by kernel_rfl) (by kernel_rfl) (by kernel_rfl) rfl rfl
      focus
        rfl
      focus
        refine ⟨?_, ?_⟩
        focus
          refine phOp (by kernel_rfl) fun kv x hlo hhi hI K hk => ?_
          clear hlo hhi
          have HI := Lib.hid hI
          clear hI
          go_wp2_with fail
          exact hk _ _ rfl HI.out
        rintro _ rfl
        simp only [Act.put, List.setIfInBounds_toArray, List.set_cons_succ, List.set_cons_zero]
        refine ⟨?_, ?_⟩
        focus
          refine phOp (by kernel_rfl) fun kv x hlo hhi hI K hk => ?_
          have l0 := HE1.out kv x (phHi_le hhi (by kernel_rfl)) hI
          have HI := Lib.hid hI
          clear hI hlo hhi
          go_wp2_with fail
          exact hk _ _ rfl HI.out
        rintro _ rfl
        simp only [Act.put, List.setIfInBounds_toArray, List.set_cons_succ, List.set_cons_zero]
        refine ⟨?_, ?_⟩
        focus
          refine phOp (by kernel_rfl) fun kv x hlo hhi hI K hk => ?_
          clear hlo hhi
          have HI := Lib.hid hI
          clear hI
          go_wp2_with fail
          exact hk _ _ rfl HI.out
        rintro _ rfl
        simp only [Act.put, List.setIfInBounds_toArray, List.set_cons_succ, List.set_cons_zero]
        refine ⟨?_, ?_⟩
        focus
          refine phOp (by kernel_rfl) fun kv x hlo hhi hI K hk => ?_
          clear hlo hhi
          have HI := Lib.hid hI
          clear hI
          go_wp2_with fail
          exact hk _ _ rfl HI.out
        rintro _ rfl
        simp only [Act.put, List.setIfInBounds_toArray, List.set_cons_succ, List.set_cons_zero]
        refine ⟨?_, ?_⟩
        focus
          refine phOp (by kernel_rfl) fun kv x hlo hhi hI K hk => ?_
          clear hlo hhi
          have HI := Lib.hid hI
          clear hI
          go_wp2_with fail
          exact hk _ _ rfl HI.out
        rintro _ rfl
        simp only [Act.put, List.setIfInBounds_toArray, List.set_cons_succ, List.set_cons_zero]
        refine ⟨?_, ?_⟩
        focus
          refine phOp (by kernel_rfl) fun kv x hlo hhi hI K hk => ?_
          have l0 := HD0.out kv x (phHi_le hhi (by kernel_rfl)) hI
          have HI := Lib.hid hI
          clear hI hlo hhi
          go_wp2_with fail
          exact hk _ _ rfl HI.out
        rintro _ rfl
        simp only [Act.put, List.setIfInBounds_toArray, List.set_cons_succ, List.set_cons_zero]
        refine ⟨?_, ?_⟩
        focus
          refine phOp (by kernel_rfl) fun kv x hlo hhi hI K hk => ?_
          clear hlo hhi
          have HI := Lib.hid hI
          clear hI
          go_wp2_with fail
          exact hk _ _ rfl HI.out
        rintro _ rfl
        simp only [Act.put, List.setIfInBounds_toArray, List.set_cons_succ, List.set_cons_zero]
        refine ⟨?_, ?_⟩
        focus
          refine phOp (by kernel_rfl) fun kv x hlo hhi hI K hk => ?_
          clear hlo hhi
          have HI := Lib.hid hI
          clear hI
          go_wp2_with fail
          exact hk _ _ rfl HI.out
        rintro _ rfl
        simp only [Act.put, List.setIfInBounds_toArray, List.set_cons_succ, List.set_cons_zero]
        refine ⟨?_, ?_⟩
        focus
          refine phOp (by kernel_rfl) fun kv x hlo hhi hI K hk => ?_
          clear hlo hhi
          have HI := Lib.hid hI
          clear hI
          go_wp2_with fail
          exact hk _ _ rfl HI.out
        rintro _ rfl
        simp only [Act.put, List.setIfInBounds_toArray, List.set_cons_succ, List.set_cons_zero]
        refine ⟨?_, ?_⟩
        focus
          refine phOp (by kernel_rfl) fun kv x hlo hhi hI K hk => ?_
          have l0 := HE1.out kv x (phHi_le hhi (by kernel_rfl)) hI
          have HI := Lib.hid hI
          clear hI hlo hhi
          go_wp2_with fail
          exact hk _ _ rfl HI.out
        rintro _ rfl
        simp only [Act.put, List.setIfInBounds_toArray, List.set_cons_succ, List.set_cons_zero]
        refine ⟨?_, ?_⟩
        focus
          refine phOp (by kernel_rfl) fun kv x hlo hhi hI K hk => ?_
          clear hlo hhi
          have HI := Lib.hid hI
          clear hI
          go_wp2_with fail
          exact hk _ _ rfl HI.out
        rintro _ rfl
        simp only [Act.put, List.setIfInBounds_toArray, List.set_cons_succ, List.set_cons_zero]
        refine ⟨?_, ?_⟩
        focus
          refine phOp (by kernel_rfl) fun kv x hlo hhi hI K hk => ?_
          clear hlo hhi
          have HI := Lib.hid hI
          clear hI
          go_wp2_with fail
          exact hk _ _ rfl HI.out
        rintro _ rfl
        simp only [Act.put, List.setIfInBounds_toArray, List.set_cons_succ, List.set_cons_zero]
        refine ⟨?_, ?_⟩
        focus
          refine phOp (by kernel_rfl) fun kv x hlo hhi hI K hk => ?_
          clear hlo hhi
          have HI := Lib.hid hI
          clear hI
          go_wp2_with fail
          exact hk _ _ rfl HI.out
        rintro _ rfl
        simp only [Act.put, List.setIfInBounds_toArray, List.set_cons_succ, List.set_cons_zero]
        refine ⟨?_, ?_⟩
        focus
          refine phOp (by kernel_rfl) fun kv x hlo hhi hI K hk => ?_
          have l0 := HD1.out kv x (phHi_le hhi (by kernel_rfl)) hI
          have HI := Lib.hid hI
          clear hI hlo hhi
          go_wp2_with fail
          exact hk _ _ rfl HI.out
        rintro _ rfl
        simp only [Act.put, List.setIfInBounds_toArray, List.set_cons_succ, List.set_cons_zero]
        refine ⟨?_, ?_⟩
        focus
          refine phOp (by kernel_rfl) fun kv x hlo hhi hI K hk => ?_
          clear hlo hhi
          have HI := Lib.hid hI
          clear hI
          go_wp2_with fail
          exact hk _ _ rfl HI.out
        rintro _ rfl
        simp only [Act.put, List.setIfInBounds_toArray, List.set_cons_succ, List.set_cons_zero]
        refine ⟨?_, ?_⟩
        focus
          refine phKey (by kernel_rfl) fun y hI K hk => ?_
          have hI' : y = { wo with drawn := wo.drawn + 1 } := hI
          subst hI'
          clear hI
          go_wp2_with fail
          refine hk _ _ rfl ⟨?_, (Below.refl _ _).drew.alloc (Nat.le_refl _) _, alloc_size _ _⟩
          exact Blk.new { wo with drawn := wo.drawn + 1 } _ _
        rintro _ rfl
        simp only [Act.put, List.setIfInBounds_toArray, List.set_cons_succ, List.set_cons_zero]
        refine ⟨?_, ?_⟩
        focus
          refine phKey (by kernel_rfl) fun y hI K hk => ?_
          obtain ⟨hC, hb, hz⟩ := hI
          have z0 := hC.cell 0
          have z1 := hC.cell 1
          have z2 := hC.cell 2
          have y0 := hC.frozen 0
          have y1 := hC.frozen 1
          have y2 := hC.frozen 2
          simp only [List.getElem?_toArray, List.getElem?_cons_zero, List.getElem?_cons_succ] at z0 z1 z2
          have HCC := Lib.hid hC
          have HBC := Lib.hid hb
          have HZC := Lib.hid hz
          clear hC hb hz
          go_wp2_with fail
          refine hk undef _ trivial ⟨HCC.out.set3 _ _ _, below_set3 HBC.out (Nat.le_refl _) _ _ _, ?_⟩
          simp only [World.setCell, Array.size_modify]
          exact HZC.out
        rintro v4 -
        simp only [Act.put, List.setIfInBounds_toArray, List.set_cons_succ, List.set_cons_zero]
        intro w1 hI
        obtain ⟨hC, hb1, hz1⟩ := hI
        have HB1 := Lib.hid hb1
        have HC := Lib.hid hC
        have HZ1 := Lib.hid hz1
        obtain ⟨g, hg⟩ : ∃ g, g = wo.heap.size := ⟨_, rfl⟩
        rw [← hg] at HC ⊢
        have HG := Lib.hid hg
        clear hC hb1 hz1 hg HD0 HD1 HE1
        go_wp2_with fail
        go_loopw [8] (fun i wr => ∃ (j : Nat) (A2 : Option Addr) (c2 : Nat), j ≤ r ∧ i = .int .i64 j ∧ Blk wr g tW5 #[.int .i64 ((xp : Int) + d), .bool xb, .slice A2 j c2] ∧ wr.ownsRow w1.heap.size tP5 4 (.slice A2 j c2) j (((ps.take j).map (shP d)).flatMap cpc) ∧ But g w1 wr) (fun i _ => r - (intOf i).toNat)
        case atStart => exact ⟨0, none, 0, Nat.zero_le _, rfl, HC.out, World.ownsRow_nil _ _ _ _, But.refl _ _⟩
        case round =>
          obtain ⟨j, A2, c2, hj, rfl, hC, hO, hB⟩ := hrel
          obtain ⟨wi, hwi⟩ : ∃ wi, wi = wr := ⟨_, rfl⟩
          subst hwi
          have HBO := Lib.hid (HB1.out.trans (hB.below (n := wo.heap.size) (by rw [HG.out]; exact Nat.le_refl _) HB1.out.size))
          have b1 := cell_keep HBO.out HBB.out
          have d2 := cell_keep HBO.out HD2.out
          have c2' := hC.cell 2
          simp only [List.getElem?_toArray, List.getElem?_cons_zero, List.getElem?_cons_succ] at c2'
          have HCI := Lib.hid hC
          have HOI := Lib.hid hO
          have HBI := Lib.hid hB
          have hwz := hB.size
          clear hC hO hB
          by_cases hjr : j < r
          · have hjr' : j < ps.length := by rw [← HR.out]; exact hjr
            obtain ⟨A9, c9, hA9, hrd9, -⟩ := HP.out.below HBO.out
            injection hA9 with hA91 hA92 hA93
            subst hA91 hA93
            obtain ⟨b9, o9, hA, -⟩ := hrd9.addr (by omega)
            subst hA
            obtain ⟨e0, e1, e2, e3⟩ := RdL.cparts hrd9 hjr'
            have HF2 := Lib.hid (show ((ps.take (j + 1)).map (shP d)).flatMap cpc = ((ps.take j).map (shP d)).flatMap cpc ++ [.int .i64 ps[j].kind, .int .i64 ((ps[j].pos : Int) + d), .int .i64 ps[j].n, .string { data := ps[j].s.toArray }] by rw [List.take_succ_eq_append_getElem hjr', List.map_append, List.flatMap_append]; simp [cpc, shP])
            have hpp := HXP.out _ (List.getElem_mem hjr')
            obtain ⟨p, hp⟩ : ∃ p, p = ps[j] := ⟨_, rfl⟩
            rw [← hp] at HF2 e0 e1 e2 e3 hpp
            clear hp hrd9 hA92 hjr'
            go_upto_region 10 with (fail)
            have hbk : Below wi.heap.size wi (wi.alloc (.cells #[.int .i64 p.kind, .int .i64 p.pos, .int .i64 p.n, .string { data := p.s.toArray }] 88)) := (Below.refl _ _).alloc (Nat.le_refl _) _
            have hP := Blk.new wi 88 #[.int .i64 p.kind, .int .i64 p.pos, .int .i64 p.n, .string { data := p.s.toArray }]
            have HQK := Lib.hid (HCI.out.below hbk)
            have HOK := Lib.hid (own_below HOI.out hbk)
            have HBK := Lib.hid (HBI.out.trans (But.of hbk))
            obtain ⟨K, hK⟩ : ∃ K, K = wi.heap.size := ⟨_, rfl⟩
            have hKg : K ≠ g := by have := HCI.out.lt; omega
            have hKz : w1.heap.size ≤ K := by omega
            rw [← hK] at hP ⊢
            have HKE := Lib.hid hK
            clear hbk e0 e1 e2 e3 b1 d2 c2' hK
            generalize wi.alloc (.cells #[.int .i64 p.kind, .int .i64 p.pos, .int .i64 p.n, .string { data := p.s.toArray }] 88) = wk at *
            have p1 := hP.cell 1
            have f1 := hP.frozen 1
            simp only [List.getElem?_toArray, List.getElem?_cons_zero, List.getElem?_cons_succ] at p1
            go_upto_region 11 with (fail)
            have hP2 := hP.set 1 (.int .i64 ((p.pos : Int) + d))
            simp only [List.setIfInBounds_toArray, List.set_cons_succ, List.set_cons_zero] at hP2
            have hQ2 := (But.set (B := K) wk 1 (.int .i64 ((p.pos : Int) + d))).blk HQK.out (fun e => hKg e.symm)
            have HO2 := Lib.hid (own_set_other HOK.out (p := ⟨K, 1, none⟩) (fun k hk e => by have := (HOI.out.lt k hk).2; have := HKE.out; simp only at e; omega) (.int .i64 ((p.pos : Int) + d)))
            have HB2 := Lib.hid (HBK.out.of2 ((Below.refl w1.heap.size wk).setCell (p := ⟨K, 1, none⟩) hKz (.int .i64 ((p.pos : Int) + d))))
            have hwz2 := HB2.out.size
            clear p1 f1 hP
            generalize wk.setCell ⟨K, 1, none⟩ (.int .i64 ((p.pos : Int) + d)) = wl at *
            have p0 := hP2.cell 0
            have p1 := hP2.cell 1
            have p2 := hP2.cell 2
            have p3 := hP2.cell 3
            have q2 := hQ2.cell 2
            simp only [List.getElem?_toArray, List.getElem?_cons_zero, List.getElem?_cons_succ] at p0 p1 p2 p3 q2
            have HQ2 := Lib.hid hQ2
            clear hP2 hQ2 hwz
            go_wp2_with (at_builtin; refine wpList_push rfl _ _ _ rfl Tryd.underlying84 hinfP hzP0 hzP1 hzP2 rfl (by decide) HO2.out rfl rfl rfl (by simp [Value.oneCell']) (by omega) (by decide) hwz2 ?_; intro A4 c4 w4 ho4 hb4 hoo4; have hQ4 := HQ2.out.others hoo4 (by decide); have z2 := hQ4.cell 2; have f2 := hQ4.frozen 2; simp only [List.getElem?_toArray, List.getElem?_cons_zero, List.getElem?_cons_succ] at z2; have HO4 := Lib.hid ho4; have HB4 := Lib.hid hb4; have HQ4 := Lib.hid hQ4; clear ho4 hb4 hoo4 hQ4)
            have hQ5 := HQ4.out.set 2 (.slice A4 (j + 1) c4)
            simp only [List.setIfInBounds_toArray, List.set_cons_succ, List.set_cons_zero] at hQ5
            go_roundw
            case rel =>
              refine ⟨j + 1, A4, c4, by omega, by go_num, hQ5, ?_, (HB2.out.of2 HB4.out).trans (But.set _ 2 _)⟩
              rw [HF2.out]
              exact own_but HO4.out (But.set _ 2 _) HQ4.out (by decide)
            case measure => simp [intOf]; omega
          · obtain rfl : j = r := by omega
            have HL := Lib.hid (show ps.take j = ps by rw [HR.out, List.take_length])
            have hQi := HQB.out.below HBO.out
            have q1 := hQi.cell 1
            have e0 := HCI.out.cell 0
            have e1 := HCI.out.cell 1
            simp only [List.getElem?_toArray, List.getElem?_cons_zero, List.getElem?_cons_succ] at q1 e0 e1
            obtain ⟨vs4, e41, o4, e42⟩ := HO.out
            have hln : ((ws.take k).map (shW d)).length = k := by rw [List.length_map]; exact take_len (by rw [← HQ.out]; omega)
            rw [hln] at o4
            have HLN := Lib.hid hln
            have ho4 := own_below o4 HBO.out
            have hbz : w3.heap.size ≤ wi.heap.size := Nat.le_trans hBz HBO.out.size
            have HOW := Lib.hid (show OwnP tP5 wi w3.heap.size (.slice A2 j c2) (ps.map (shP d)) by
              have := HOI.out
              rw [HL.out] at this
              unfold OwnP
              rw [List.length_map, ← HR.out]
              exact own_mono this (by have h2 := HB1.out.size; omega))
            have HE42 := Lib.hid (show ∀ p ∈ vs4, OwnP tP5 wi w3.heap.size p.2 p.1.parts from fun p hp => (e42 p hp).below HBO.out)
            have HQI := Lib.hid hQi
            clear hln o4 e42 hQi
            go_wp2_with (at_builtin; refine wpList_push rfl _ _ _ rfl Tryd.underlying39 hinfW hzW0 hzW1 hzW2 rfl (by decide) ho4 rfl rfl rfl (by simp [Value.oneCell']) (by omega) (by decide) hbz ?_; intro A5 c5 w5 ho5 hb5 hoo5; have hQ5 := HQI.out.others hoo5 (by decide); have z1 := hQ5.cell 1; have f1 := hQ5.frozen 1; simp only [List.getElem?_toArray, List.getElem?_cons_zero, List.getElem?_cons_succ] at z1; have HO5 := Lib.hid ho5; have HB5 := Lib.hid hb5; have HOO5 := Lib.hid hoo5; have HQ5 := Lib.hid hQ5; clear ho5 hb5 hoo5 hQ5)
            have hQ6 := HQ5.out.set 1 (.slice A5 (k + 1) c5)
            simp only [List.setIfInBounds_toArray, List.set_cons_succ, List.set_cons_zero] at hQ6
            go_roundw
            case rel =>
              refine ⟨k + 1, A5, c5, by omega, by go_num, hQ6, ?_, ((HBT.out.trans (But.of HBO.out)).of2 HB5.out).trans (But.set _ 1 _)⟩
              have hpush := OwnW.push (x := ⟨xp + d, xb, ps.map (shP d)⟩) (l := (ws.take k).map (shW d)) e41 (by rw [HLN.out]; simpa [wdc] using HO5.out) (fun p hp => (HE42.out p hp).others HOO5.out (by decide)) (HOW.out.others HOO5.out (by decide))
              rw [HF.out]
              exact hpush.but (But.set _ 1 _) HQ5.out (by decide) (by decide)
            case measure => simp [intOf]; omega
    · obtain rfl : k = q := by omega
      have e0 := HQB.out.cell 0
      have e1 := HQB.out.cell 1
      have r0 := k1.cell 0
      have r1 := k1.cell 1
      have g0 := k1.frozen 0
      have g1 := k1.frozen 1
      simp only [List.getElem?_toArray, List.getElem?_cons_zero, List.getElem?_cons_succ] at e0 e1 r0 r1
      have HRB := Lib.hid k1
      have HL := Lib.hid (show ws.take k = ws by rw [HQ.out, List.take_length])
      clear k0 k1
      go_wp2_with fail
      have hRf := HRB.out.set2 (.int .i64 ((pos : Int) + d)) (.slice A' k c')
      have hBf := But.set2 (w.heap.size + 1) wr (.int .i64 ((pos : Int) + d)) (.slice A' k c')
      have t0 := hRf.cell 0
      have t1 := hRf.cell 1
      simp only [List.getElem?_toArray, List.getElem?_cons_zero, List.getElem?_cons_succ] at t0 t1
      refine bodyPost_ret (v := .agg #[.int .i64 ((pos : Int) + d), .slice A' k c']) (by simp [results, Tryd.results16, go_sem, t0, t1]) rfl ?_
      refine ⟨.slice A' k c', by rw [Int.natCast_add], ?_, HBW.out.trans (hBf.below (by omega) HBW.out.size)⟩
      have ho := HO.out
      rw [HL.out] at ho
      exact (ho.but hBf HRB.out (by decide) (by decide)).mono (by omega)
end Go.Proofs.YtlhpflilpdceiaaDoor
