/- The walks over core.Has (a closure called in a loop). Bounds on the lengths. -/
import Derived.Test.YtpogngdddendiaaDoorHB
import Derived.Test.YtpogngdddendiaaDoorHD
import Derived.Deep.DeepCutAuto
import Derived.Outline
import Derived.Test.YtpogngdddendiaaDoorHL
set_option linter.unusedVariables false
set_option linter.unusedSimpArgs false
namespace Go.Proofs.YtpogngdddendiaaDoor
open Go.RowKit

theorem has1_any (x : Nd) (Bx : Nat) (Ak : Option Addr) (ck : Nat) (K : List Int) (w : World) (hb : w.cell? ⟨Bx, 0, none⟩ = some (.slice Ak K.length ck)) (hk : RdL w 1 intc Ak K) (hl : K.length ≤ 1000000) :
    Calls Tryd.prog 160 #[.agg #[.int .i64 x.kind, .int .i64 x.n, .int .i64 x.k, .int .i64 x.size, .string ⟨x.s.toArray⟩], .pointer (some ⟨Bx, 0, none⟩)] w (Ret w (.bool (K.contains x.kind))) := by
  obtain ⟨W0, hW0⟩ : ∃ W0, W0 = w.alloc (.cells #[.int .i64 x.kind, .int .i64 x.n, .int .i64 x.k, .int .i64 x.size, .string ⟨x.s.toArray⟩] 98) := ⟨_, rfl⟩
  have hb0 : Below w.heap.size w W0 := by rw [hW0]; exact (Below.refl _ _).alloc (Nat.le_refl _) _
  have hB0 : Blk W0 w.heap.size 98 #[.int .i64 x.kind, .int .i64 x.n, .int .i64 x.k, .int .i64 x.size, .string ⟨x.s.toArray⟩] := by rw [hW0]; exact Blk.new w _ _
  have z0 := hB0.cell 0
  simp only [List.getElem?_toArray, List.getElem?_cons_zero] at z0
  have hbk := cell_keep hb0 hb
  have HC := Lib.hid (contains_any Ak ck K x.kind W0 (hk.below hb0) hl)
  clear hb hk hB0
  generalize K.contains x.kind = q at *
  go_enter Tryd.func160, Tryd.ntmps160
  go_upto_region 1 with (fail)
  rw [← hW0]
  clear hW0
  go_wp2_with fail
  refine HC.out.mono ?_
  rintro e w1 ⟨rfl, rfl⟩
  go_wp2_with fail
  go_ret
  exact ⟨rfl, hb0⟩
def IdxfRet (b : Bool) (w : World) (e : Ending) (w' : World) : Prop := ∃ r : Int, e = .returned (.int .i64 r) ∧ decide (0 ≤ r) = b ∧ Below w.heap.size w w'

set_option maxHeartbeats 2000000 in
theorem indexf_any (A : Option Addr) (c : Nat) (L : List Nd) (Bx : Nat) (Ak : Option Addr) (ck : Nat) (K : List Int) (w : World) (hrd : RdL w 5 ndc A L) (hL : L.length ≤ 4000000) (hb : w.cell? ⟨Bx, 0, none⟩ = some (.slice Ak K.length ck)) (hk : RdL w 1 intc Ak K) (hl : K.length ≤ 1000000) :
    Calls Tryd.prog 172 #[.slice A L.length c, .func (.func 160) #[] #[.pointer (some ⟨Bx, 0, none⟩)]] w (IdxfRet (L.any fun x => K.contains x.kind) w) := by
  obtain ⟨m, hm⟩ : ∃ m, m = L.length := ⟨_, rfl⟩
  rw [← hm] at hL ⊢
  have HM := Lib.hid hm
  have HB := Lib.hid hb
  have HK := Lib.hid hk
  clear hm hb hk
  go_enter Tryd.func172, Tryd.ntmps172
  go_wp2_with fail
  go_loopw [8] (fun i wr => ∃ k : Nat, k ≤ m ∧ i = .int .i64 k ∧ Below w.heap.size w wr ∧ Hid ((L.take k).any (fun x => K.contains x.kind) = false)) (fun i _ => m - (intOf i).toNat)
  case atStart => exact ⟨0, Nat.zero_le _, rfl, Below.refl _ _, Lib.hid (by simp)⟩
  case round =>
    obtain ⟨k, hk, rfl, hbr, H⟩ := hrel
    by_cases hlt : k < m
    · have hkL : k < L.length := by rw [← HM.out]; exact hlt
      obtain ⟨b, o, rfl, _, hcell⟩ := (hrd.below hbr) k hkL
      obtain ⟨x, hx⟩ : ∃ x, x = L[k] := ⟨_, rfl⟩
      have HT := Lib.hid (show L.take (k + 1) = L.take k ++ [x] by rw [List.take_succ_eq_append_getElem hkL, hx])
      rw [← hx] at hcell
      have c0 := hcell 0 _ rfl
      have c1 := hcell 1 _ rfl
      have c2 := hcell 2 _ rfl
      have c3 := hcell 3 _ rfl
      have c4 := hcell 4 _ rfl
      simp only [Nat.add_zero] at c0
      have HX := Lib.hid (show x ∈ L by rw [hx]; exact List.getElem_mem _)
      have HC := Lib.hid (has1_any x Bx Ak ck K wr (cell_keep hbr HB.out) (HK.out.below hbr) hl)
      clear hcell hx hkL
      obtain ⟨q, hq⟩ : ∃ q, K.contains x.kind = q := ⟨_, rfl⟩
      rw [hq] at HC
      have HQ := Lib.hid hq
      clear hq
      cases q
      · go_wp2_with fail
        refine HC.out.mono ?_
        rintro e w1 ⟨rfl, hb1⟩
        have hb2 := hbr.trans (hb1.mono hbr.size)
        clear c0 c1 c2 c3 c4
        go_wp2_with fail
        go_roundw
        case rel => exact ⟨k + 1, by omega, by go_num, hb2, Lib.hid (by rw [HT.out, List.any_append, H.out, Bool.false_or, List.any_cons, List.any_nil, Bool.or_false]; exact HQ.out)⟩
        case measure => simp [intOf]; omega
      · have HT2 := Lib.hid (show L.any (fun x => K.contains x.kind) = true from List.any_eq_true.2 ⟨x, HX.out, HQ.out⟩)
        go_wp2_with fail
        refine HC.out.mono ?_
        rintro e w1 ⟨rfl, hb1⟩
        have hb2 := hbr.trans (hb1.mono hbr.size)
        clear c0 c1 c2 c3 c4
        go_wp2_with fail
        go_ret
        exact ⟨k, rfl, by rw [HT2.out]; exact decide_eq_true (by omega), hb2⟩
    · obtain rfl : k = m := by omega
      have HF := Lib.hid (show L.any (fun x => K.contains x.kind) = false by
        have h := H.out
        rwa [List.take_of_length_le (by rw [← HM.out]; exact Nat.le_refl _)] at h)
      clear H
      go_wp2_with fail
      go_ret
      exact ⟨-1, rfl, by rw [HF.out]; rfl, hbr⟩
theorem containsf_any (A : Option Addr) (c m : Nat) (L : List Nd) (Bx : Nat) (Ak : Option Addr) (ck : Nat) (K : List Int) (w : World) (hm : m = L.length) (hrd : RdL w 5 ndc A L) (hL : L.length ≤ 4000000) (hb : w.cell? ⟨Bx, 0, none⟩ = some (.slice Ak K.length ck)) (hk : RdL w 1 intc Ak K) (hl : K.length ≤ 1000000) :
    Calls Tryd.prog 159 #[.slice A m c, .func (.func 160) #[] #[.pointer (some ⟨Bx, 0, none⟩)]] w (Ret w (.bool (L.any fun x => K.contains x.kind))) := by
  have HI := Lib.hid (indexf_any A c L Bx Ak ck K w hrd hL hb hk hl)
  rw [← hm] at HI
  generalize L.any (fun x => K.contains x.kind) = B at *
  clear hm hrd hb hk
  go_enter Tryd.func159, Tryd.ntmps159
  go_wp2_with fail
  refine HI.out.mono ?_
  rintro e w1 ⟨r, rfl, hr, hb1⟩
  go_wp2_with fail
  go_ret
  exact ⟨rfl, hb1⟩
theorem has_any (A : Option Addr) (c m : Nat) (L : List Nd) (Ak : Option Addr) (ck kl : Nat) (K : List Int) (w : World) (hm : m = L.length) (hkl : kl = K.length) (hrd : RdL w 5 ndc A L) (hL : L.length ≤ 4000000) (hk : RdL w 1 intc Ak K) (hl : K.length ≤ 1000000) :
    Calls Tryd.prog 136 #[.slice A m c, .slice Ak kl ck] w (Ret w (.bool (L.any fun x => K.contains x.kind))) := by
  obtain ⟨W0, hW0⟩ : ∃ W0, W0 = w.alloc (.cells #[.slice Ak kl ck] 45) := ⟨_, rfl⟩
  have hb0 : Below w.heap.size w W0 := by rw [hW0]; exact (Below.refl _ _).alloc (Nat.le_refl _) _
  have hB0 : Blk W0 w.heap.size 45 #[.slice Ak kl ck] := by rw [hW0]; exact Blk.new w _ _
  have z0 := hB0.cell 0
  simp only [List.getElem?_toArray, List.getElem?_cons_zero] at z0
  have HC := Lib.hid (containsf_any A c m L w.heap.size Ak ck K W0 hm (hrd.below hb0) hL (by rw [← hkl]; exact z0) (hk.below hb0) hl)
  have hmf : ∀ (fn : Fn) (first cap : Array Value) (w : World), (Instr.makeFunc fn first cap).run Tryd.prog w = .ok (.func fn first cap) w := fun _ _ _ _ => rfl
  generalize L.any (fun x => K.contains x.kind) = B at *
  clear hrd hk hB0 hm hkl
  go_enter Tryd.func136, Tryd.ntmps136
  go_upto_region 1 with (fail)
  rw [← hW0]
  clear hW0
  go_wp2_with fail
  refine HC.out.mono ?_
  rintro e w1 ⟨rfl, hb1⟩
  have hb2 := hb0.trans (hb1.mono hb0.size)
  go_wp2_with fail
  go_ret
  exact ⟨rfl, hb2⟩

end Go.Proofs.YtpogngdddendiaaDoor

/- The walks over consts.spread, consts.cat. Bounds on the lengths. -/
set_option linter.unusedVariables false
set_option linter.unusedSimpArgs false
namespace Go.Proofs.YtpogngdddendiaaDoor
open Go.RowKit

set_option maxRecDepth 100000 in
set_option maxHeartbeats 8000000 in
theorem cspread_any (P : Tr → Prop) (hP : Opens P) (B : Nat) (A : Option Addr) (m c : Nat) (ks : List Tr) (w : World) (hB : B ≤ w.heap.size) (hz : sizeL ks ≤ 1000000) (hp : ∀ t ∈ ks, P t) (hrow : RowO w B A m c ks) :
    Calls Tryd.prog 148 #[.slice A m c] w (RowTRet B (spr (sizeL ks) ks) w) := by
  obtain ⟨i0, hi, hz0, hz1, hz2⟩ := info_parts infoNodes
  have HB := Lib.hid hB
  have HPO := Lib.hid hP
  obtain ⟨S, hS⟩ : ∃ S, S = spr (sizeL ks) ks := ⟨_, rfl⟩
  rw [← hS]
  have HROW := Lib.hid hrow
  obtain ⟨N0, hN0⟩ : ∃ N0, N0 = sizeL ks + 1 := ⟨_, rfl⟩
  have hst : Hid (∃ n, sizeL ks ≤ n ∧ n + 1 ≤ N0 ∧ spr n ks = S) := Lib.hid ⟨sizeL ks, Nat.le_refl _, by omega, hS.symm⟩
  have HZ := Lib.hid hz
  have HPP := Lib.hid hp
  clear hP hB hrow hp hS hz hN0
  go_enter Tryd.func148, Tryd.ntmps148
  go_wp2_with fail
  go_loopg [0, 3] N0 (fun g v u wr => ∃ (A : Option Addr) (m c : Nat) (ks : List Tr) (cf : Bool), v = .slice A m c ∧ u = .bool cf ∧ Hid (RowO wr B A m c ks) ∧ Hid (∀ t ∈ ks, P t) ∧ Hid (sizeL ks ≤ 1000000) ∧ Hid (if cf = true then ∃ n, sizeL ks ≤ n ∧ n + 1 ≤ g ∧ spr n ks = S else ks = S) ∧ Below w.heap.size w wr)
  case atStart => exact ⟨A, m, c, ks, true, rfl, rfl, HROW, HPP, HZ, Lib.hid (by rw [if_pos rfl]; exact hst.out), Below.refl _ _⟩
  case round =>
    clear hst HZ HPP HROW
    obtain ⟨A, m, c, ks, cf, rfl, rfl, HR, HPK, HZ, HK, hb⟩ := hrel
    cases cf
    · go_wp2_with fail
      go_ret
      have h := HK.out
      rw [if_neg Bool.noConfusion] at h
      subst h
      exact ⟨A, m, c, rfl, HR.out, hb⟩
    · obtain ⟨n, n1, n2, n3⟩ : ∃ n, sizeL ks ≤ n ∧ n + 1 ≤ gk ∧ spr n ks = S := by have h := HK.out; rw [if_pos rfl] at h; exact h
      have HNN := Lib.hid (And.intro n1 n3)
      have hgk : 1 ≤ gk := by omega
      have hnk : n ≤ gk - 1 := by omega
      have hml := HR.out.len
      have hm6 : m ≤ 1000000 := by have := sizeL_len ks; have := HZ.out; omega
      have hs1 := spr1_size 0 ks
      have HS1 := Lib.hid hs1
      have hl1 := sizeL_len (spr1 0 ks)
      have HN2 := Lib.hid (show (spr1 0 ks).length ≤ 1000000 by have := HZ.out; omega)
      have HML := Lib.hid hml
      have HW0 := Lib.hid hb
      have HBB := Lib.hid (show B ≤ wr.heap.size from Nat.le_trans HB.out hb.size)
      have HW1 := Lib.hid (show wr.heap.size ≤ wr.heap.size from Nat.le_refl _)
      clear n1 n2 n3 HK hml hs1 hl1 hb
      generalize wr = w1 at *
      go_wp2_with fail
      go_loopw [3, 4, 10] (fun u v i w2 => ∃ (k q : Nat) (A' : Option Addr) (c' : Nat) (us : List Value) (out : List Tr) (cf : Bool), k ≤ m ∧ i = .int .i64 k ∧ v = .slice A' q c' ∧ u = .bool cf ∧ Hid (q = out.length) ∧
          w2.ownsRow w1.heap.size 22 1 (.slice A' q c') q us ∧ OwnAll w2 B us (out.map flat) ∧ Hid (out ++ spr1 k (ks.drop k) = spr1 0 ks) ∧ Hid ((cf || chg k (ks.drop k)) = chg 0 ks) ∧ Below w1.heap.size w1 w2) (fun _ _ i _ => m - (intOf i).toNat)
      case atStart => exact ⟨0, 0, none, 0, [], [], false, Nat.zero_le _, rfl, rfl, rfl, rfl, World.ownsRow_nil _ _ _ _, OwnAll.nil _ _, Lib.hid (by simp), Lib.hid (by simp), Below.refl _ _⟩
      case round =>
        obtain ⟨k, q, A', c', us, out, cf, hk, rfl, rfl, rfl, HQ, hown, hall, HO, HCF, hbx⟩ := hrel
        by_cases hlt : k < m
        · have hkU : k < ks.length := by rw [← HML.out]; exact hlt
          obtain ⟨b1, o1, At, n1, c1, rfl, -, cc1, own1⟩ := (HR.out.below hbx).at_ hkU
          have hdr := List.drop_eq_getElem_cons hkU
          have htl : (flat ks[k]).length ≤ 1000000 := by have := flatAll_mem_le ks k hkU; have := HZ.out; unfold sizeL at this; omega
          obtain ⟨t, ht⟩ : ∃ t, t = ks[k] := ⟨_, rfl⟩
          rw [← ht] at own1 hdr htl
          have hsp : spr1 k (ks.drop k) = (if catB k t then t.kids else [t]) ++ spr1 (k + 1) (ks.drop (k + 1)) := by rw [hdr, spr1]
          have hcg : chg k (ks.drop k) = (catB k t || chg (k + 1) (ks.drop (k + 1))) := by rw [hdr, chg]
          obtain ⟨b3, o3, rfl, h03, hn1, -, -, e0, -, -, -, -⟩ := head_cells own1.rd
          have HN2 := Lib.hid (show (out ++ spr1 k (ks.drop k)).length ≤ 1000000 by rw [HO.out]; exact HN2.out)
          have HL1 := Lib.hid (OwnAll.one own1.own')
          have KC := Lib.hid (fun W (hW : Below wr.heap.size wr W) => show Calls Tryd.prog 64 #[.slice (some ⟨b3, o3, none⟩) n1 c1] W (KidsRet (t.kids.map flat) W) by rw [← kidsL_tree]; exact kids_any _ _ W (own1.below hW).rd (by omega))
          have hqb : q + 1 ≤ 1000001 := by
            have h := HN2.out
            rw [List.length_append, ← HQ.out] at h
            omega
          have hbk := Below.refl wr.heap.size wr
          by_cases h3 : t.kind = 3
          · rw [h3] at e0
            have hk3 : (t.kind == 3) = true := by rw [h3]; rfl
            rcases Nat.eq_zero_or_pos k with h0 | h0
            · subst h0
              have hcb : catB 0 t = true := by simp [catB, hk3]
              have HSP := Lib.hid (show spr1 0 (ks.drop 0) = t.kids ++ spr1 (0 + 1) (ks.drop (0 + 1)) by rw [hsp, if_pos hcb])
              have HCG := Lib.hid (show chg 0 (ks.drop 0) = true by rw [hcg, hcb]; rfl)
              simp only [Nat.add_zero] at cc1
              clear hsp hcg hdr hkU ht htl own1 hk3 hcb hn1 h3
              go_wp2_with fail
              refine (KC.out _ hbk).mono ?_
              rintro e w5 ⟨A5, c5, vs5, rfl, ho5, hl5, hb5⟩
              have hl5n : (t.kids.map flat).length = vs5.length := hl5.1.symm
              obtain ⟨hr5, hA5, hsp5⟩ := rd_one ho5 hl5n
              have hown5 := own_below hown hb5
              have hall5 := hall.below hb5
              have hb15 := hbx.trans (hb5.mono hbx.size)
              have H5 := Lib.hid (show OwnAll w5 B vs5 (t.kids.map flat) from hl5.mono (Nat.le_trans HBB.out (Nat.le_trans HW1.out hbx.size)))
              rw [hl5n]
              have HLN := Lib.hid hl5n
              have HC5 := Lib.hid (show ∀ y, y ∈ vs5 → ∀ u ∈ one1 y, u.oneCell' = true from fun y hy u hu => by simp [one1] at hu; subst hu; exact hl5.cells _ hy)
              have hn2 : q + vs5.length ≤ 1000000 := by
                have h := HN2.out
                rw [HSP.out, List.length_append, List.length_append, ← HQ.out] at h
                rw [List.length_map] at hl5n
                omega
              clear hl5n hl5 ho5
              go_wp2_with (at_builtin; refine wpList_pushMem (enc := one1) rfl _ _ _ rfl Tryd.underlying110 hi hz0 hz1 hz2 rfl (by decide) hown5 rfl rfl rfl hr5 hA5 hsp5 one1_len HC5.out (by omega) (by decide) hb15.size ?_; intro A4 c4' w4 hown4 hb4 hoo4)
              go_roundw
              case rel =>
                rw [one1_flat] at hown4
                refine ⟨0 + 1, q + vs5.length, A4, c4', us ++ vs5, out ++ t.kids, true, by omega, by go_num, rfl, rfl, Lib.hid (by rw [List.length_append, ← HQ.out, ← HLN.out, List.length_map]), hown4, ?_, Lib.hid ?_, Lib.hid ?_, hb15.trans hb4⟩
                · rw [List.map_append]
                  exact (hall5.others hoo4 (by decide)).append (H5.out.others hoo4 (by decide))
                · rw [← HO.out, HSP.out, List.append_assoc]
                · rw [← HCF.out, HCG.out]
                  simp
              case measure => simp [intOf]; omega
            · have hki : ((k : Int) == 0) = false := by rw [beq_eq_false_iff_ne]; omega
              have hkn : (k == 0) = false := by rw [beq_eq_false_iff_ne]; omega
              obtain ⟨W0, hW0⟩ : ∃ W0, W0 = wr.alloc (.cells #[.int .i64 12] 3) := ⟨_, rfl⟩
              have hb0 : Below wr.heap.size wr W0 := by rw [hW0]; exact (Below.refl _ _).alloc (Nat.le_refl _) _
              have HC := Lib.hid (has_any (some ⟨b3, o3, none⟩) c1 n1 (flat t) (some ⟨wr.heap.size, 0, none⟩) 1 1 [12] W0 hn1 rfl (by
                obtain ⟨_, _, he, hr, _⟩ := own1.rd
                injection he with he _ _
                rw [he]
                exact hr.below hb0) (by omega) (by rw [hW0]; exact ints_lit wr [12]) (by decide))
              rw [show ((flat t).any fun x => ([12] : List Int).contains x.kind) = hasSub t from rfl] at HC
              have hcb : catB k t = !hasSub t := by simp [catB, hk3, hkn]
              obtain ⟨hs, hhs⟩ : ∃ hs, hasSub t = hs := ⟨_, rfl⟩
              rw [hhs] at HC hcb
              have HW0 := Lib.hid hW0
              have HB0 := Lib.hid hb0
              cases hs
              · have HSP := Lib.hid (show spr1 k (ks.drop k) = t.kids ++ spr1 (k + 1) (ks.drop (k + 1)) by rw [hsp, hcb]; rfl)
                have HCG := Lib.hid (show chg k (ks.drop k) = true by rw [hcg, hcb]; rfl)
                clear hsp hcg hdr hkU ht htl own1 hk3 hcb hn1 h3 hhs hkn hW0 hb0
                go_wp2_with fail
                rw [← HW0.out]
                refine HC.out.mono ?_
                rintro e w3 ⟨rfl, hb3⟩
                have hbk := HB0.out.trans (hb3.mono HB0.out.size)
                have hown := own_below hown hbk
                have hall := hall.below hbk
                have hbx := hbx.trans (hbk.mono hbx.size)
                go_wp2_with fail
                refine (KC.out _ hbk).mono ?_
                rintro e w5 ⟨A5, c5, vs5, rfl, ho5, hl5, hb5⟩
                have hl5n : (t.kids.map flat).length = vs5.length := hl5.1.symm
                obtain ⟨hr5, hA5, hsp5⟩ := rd_one ho5 hl5n
                have hown5 := own_below hown hb5
                have hall5 := hall.below hb5
                have hb15 := hbx.trans (hb5.mono hbx.size)
                have H5 := Lib.hid (show OwnAll w5 B vs5 (t.kids.map flat) from hl5.mono (Nat.le_trans HBB.out (Nat.le_trans HW1.out hbx.size)))
                rw [hl5n]
                have HLN := Lib.hid hl5n
                have HC5 := Lib.hid (show ∀ y, y ∈ vs5 → ∀ u ∈ one1 y, u.oneCell' = true from fun y hy u hu => by simp [one1] at hu; subst hu; exact hl5.cells _ hy)
                have hn2 : q + vs5.length ≤ 1000000 := by
                  have h := HN2.out
                  rw [HSP.out, List.length_append, List.length_append, ← HQ.out] at h
                  rw [List.length_map] at hl5n
                  omega
                clear hl5n hl5 ho5
                go_wp2_with (at_builtin; refine wpList_pushMem (enc := one1) rfl _ _ _ rfl Tryd.underlying110 hi hz0 hz1 hz2 rfl (by decide) hown5 rfl rfl rfl hr5 hA5 hsp5 one1_len HC5.out (by omega) (by decide) hb15.size ?_; intro A4 c4' w4 hown4 hb4 hoo4)
                go_roundw
                case rel =>
                  rw [one1_flat] at hown4
                  refine ⟨k + 1, q + vs5.length, A4, c4', us ++ vs5, out ++ t.kids, true, by omega, by go_num, rfl, rfl, Lib.hid (by rw [List.length_append, ← HQ.out, ← HLN.out, List.length_map]), hown4, ?_, Lib.hid ?_, Lib.hid ?_, hb15.trans hb4⟩
                  · rw [List.map_append]
                    exact (hall5.others hoo4 (by decide)).append (H5.out.others hoo4 (by decide))
                  · rw [← HO.out, HSP.out, List.append_assoc]
                  · rw [← HCF.out, HCG.out]
                    simp
                case measure => simp [intOf]; omega
              · have HSP := Lib.hid (show spr1 k (ks.drop k) = [t] ++ spr1 (k + 1) (ks.drop (k + 1)) by rw [hsp, hcb]; rfl)
                have HCG := Lib.hid (show chg k (ks.drop k) = (false || chg (k + 1) (ks.drop (k + 1))) by rw [hcg, hcb]; rfl)
                clear hsp hcg hdr hkU ht htl own1 hk3 hcb hn1 h3 hhs hkn hW0 hb0
                go_wp2_with fail
                rw [← HW0.out]
                refine HC.out.mono ?_
                rintro e w3 ⟨rfl, hb3⟩
                have hbk := HB0.out.trans (hb3.mono HB0.out.size)
                have hown := own_below hown hbk
                have hall := hall.below hbk
                have hbx := hbx.trans (hbk.mono hbx.size)
                replace HL1 := Lib.hid (HL1.out.below hbk)
                go_wp2_with (at_builtin; refine wpList_push rfl _ _ _ rfl Tryd.underlying110 hi hz0 hz1 hz2 rfl (by decide) hown rfl rfl rfl (by simp [Value.oneCell']) (by omega) (by decide) hbx.size ?_; intro A4 c4 w4 hown4 hb4 hoo4)
                go_roundw
                case rel =>
                  refine ⟨k + 1, q + 1, A4, c4, us ++ [.slice (some ⟨b3, o3, none⟩) n1 c1], out ++ [t], cf, by omega, by go_num, rfl, rfl, Lib.hid (by rw [List.length_append, ← HQ.out]; rfl), by simpa using hown4, ?_, Lib.hid ?_, Lib.hid ?_, hbx.trans hb4⟩
                  · rw [List.map_append]
                    exact (hall.others hoo4 (by decide)).append (HL1.out.others hoo4 (by decide))
                  · rw [← HO.out, HSP.out]
                    simp
                  · rw [← HCF.out, HCG.out, Bool.false_or]
                case measure => simp [intOf]; omega
          · have hk3 : (t.kind == 3) = false := by rw [beq_eq_false_iff_ne]; exact h3
            have hcb : catB k t = false := by simp [catB, hk3]
            have HSP := Lib.hid (show spr1 k (ks.drop k) = [t] ++ spr1 (k + 1) (ks.drop (k + 1)) by rw [hsp, hcb]; rfl)
            have HCG := Lib.hid (show chg k (ks.drop k) = (false || chg (k + 1) (ks.drop (k + 1))) by rw [hcg, hcb])
            clear hsp hcg hdr hkU ht htl own1 hcb hn1 h3
            go_wp2_with (at_builtin; refine wpList_push rfl _ _ _ rfl Tryd.underlying110 hi hz0 hz1 hz2 rfl (by decide) hown rfl rfl rfl (by simp [Value.oneCell']) (by omega) (by decide) hbx.size ?_; intro A4 c4 w4 hown4 hb4 hoo4)
            go_roundw
            case rel =>
              refine ⟨k + 1, q + 1, A4, c4, us ++ [.slice (some ⟨b3, o3, none⟩) n1 c1], out ++ [t], cf, by omega, by go_num, rfl, rfl, Lib.hid (by rw [List.length_append, ← HQ.out]; rfl), by simpa using hown4, ?_, Lib.hid ?_, Lib.hid ?_, hbx.trans hb4⟩
              · rw [List.map_append]
                exact (hall.others hoo4 (by decide)).append (HL1.out.others hoo4 (by decide))
              · rw [← HO.out, HSP.out]
                simp
              · rw [← HCF.out, HCG.out, Bool.false_or]
            case measure => simp [intOf]; omega
        · obtain rfl : k = m := by omega
          have hde : ks.drop k = [] := List.drop_of_length_le (by rw [← HML.out]; exact Nat.le_refl _)
          rw [hde] at HO HCF
          have hou : out = spr1 0 ks := by have h := HO.out; rw [spr1, List.append_nil] at h; exact h
          have hcf : cf = chg 0 ks := by have h := HCF.out; rw [chg, Bool.or_false] at h; exact h
          have HRO := Lib.hid (RowO.of_own hown hall HQ.out)
          have HPO2 := Lib.hid (show ∀ u ∈ out, P u by rw [hou]; exact spr1_mem HPO.out 0 ks HPK.out)
          have HZ2 := Lib.hid (show sizeL out ≤ 1000000 by rw [hou]; have := HS1.out.1; have := HZ.out; omega)
          have HST := Lib.hid (show if cf = true then ∃ n, sizeL out ≤ n ∧ n + 1 ≤ gk - 1 ∧ spr n out = S else out = S by
            obtain ⟨g1, g3⟩ := HNN.out
            rw [hcf, hou]
            split
            · rename_i hc
              have := HS1.out.2 hc
              obtain ⟨n', rfl⟩ : ∃ n', n = n' + 1 := ⟨n - 1, by omega⟩
              rw [spr, if_pos hc] at g3
              exact ⟨n', by omega, by omega, g3⟩
            · rename_i hc
              rw [spr_id (by simpa using hc)] at g3
              rw [spr1_id 0 ks (by simpa using hc), g3])
          have hbw := HW0.out.trans (hbx.mono HW0.out.size)
          clear hown hall hde hou hcf
          go_wp2_with fail
          go_roundg (gk - 1)
          case measure => omega
          case rel => exact ⟨A', q, c', out, cf, rfl, rfl, HRO, HPO2, HZ2, HST, hbw⟩
end Go.Proofs.YtpogngdddendiaaDoor
