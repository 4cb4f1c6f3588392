/- The walks over core.New, core.Lit, slices.Clone, core.Seq: each returns just what the plain functions say, in memory of its own. Bounds on the lengths. -/
import Derived.Test.YtpogngdddendiaaDoorHC
import Derived.Outline
import Derived.Deep.DeepCutAuto
set_option linter.unusedVariables false
set_option linter.unusedSimpArgs false
namespace Go.Proofs.YtpogngdddendiaaDoor
open Go.RowKit

theorem ret_slice {A : Option Addr} {n m c : Nat} (h : n = m) : Ending.returned (.slice A n c) = .returned (.slice A m c) := by rw [h]
theorem node_row (kind n k size : Int) (s : List UInt8) : (#[Value.int .i64 kind, .int .i64 n, .int .i64 k, .int .i64 size, .string ⟨s.toArray⟩] : Array Value).toList = [(⟨kind, n, k, size, s⟩ : Nd)].flatMap ndc := rfl

set_option maxHeartbeats 2000000 in
theorem new_any (kind n : Int) (s : List UInt8) (A : Option Addr) (c : Nat) (ls : List (List Nd)) (w : World) (h : KdRd w A ls) (hl : ls.length ≤ 4000000) (ht : ls.flatten.length ≤ 4000000) :
    Calls Tryd.prog 45 #[.int .i64 kind, .int .i64 n, .string ⟨s.toArray⟩, .slice A ls.length c] w (NodesRet (newL kind n s ls) w) := by
  obtain ⟨i0, hi, hz0, hz1, hz2⟩ := info_parts infoNode
  have HT := Lib.hid ht
  clear ht
  go_enter Tryd.func45, Tryd.ntmps45
  go_wp2_with fail
  go_loopw [9, 21] (fun v i wr => ∃ (k : Nat) (A' : Option Addr) (c' : Nat), k ≤ ls.length ∧ i = .int .i64 k ∧ v = .slice A' (1 + (ls.take k).flatten.length) c' ∧
      wr.ownsRow w.heap.size 98 5 (.slice A' (1 + (ls.take k).flatten.length) c') (1 + (ls.take k).flatten.length) ((⟨kind, n, ls.length, 0, s⟩ :: (ls.take k).flatten : List Nd).flatMap ndc) ∧ Below w.heap.size w wr)
    (fun _ i _ => ls.length - (intOf i).toNat)
  case atStart =>
    refine ⟨0, _, _, Nat.zero_le _, rfl, rfl, ?_, (Below.refl _ _).alloc (Nat.le_refl _) _⟩
    exact World.ownsRow_lit w #[Value.int .i64 kind, .int .i64 n, .int .i64 ls.length, .int .i64 0, .string ⟨s.toArray⟩] 1 (Nat.le_refl _) (by decide) rfl
  case round =>
    obtain ⟨k, A', c', hk, rfl, rfl, hown, hb⟩ := hrel
    by_cases hlt : k < ls.length
    · obtain ⟨b, o, v, rfl, hbl, hc, Ak, ck, rfl, hrd, hck, hcm, hA0, hsp⟩ := (h.below hb).at_ hlt
      have hle := flat_take_len ls k hlt
      have hbd := HT.out
      have hlen : (1 + (ls.take k).flatten.length) + ls[k].length ≤ 4000001 := by omega
      have HN := Lib.hid (show (⟨kind, n, ls.length, 0, s⟩ :: (ls.take (k + 1)).flatten : List Nd).flatMap ndc = (⟨kind, n, ls.length, 0, s⟩ :: (ls.take k).flatten : List Nd).flatMap ndc ++ ls[k].flatMap ndc by
        rw [flat_take ls k hlt, ← List.cons_append, List.flatMap_append])
      have HL := Lib.hid (show 1 + (ls.take (k + 1)).flatten.length = (1 + (ls.take k).flatten.length) + ls[k].length by
        rw [flat_take ls k hlt, List.length_append]; omega)
      clear hbd hle
      generalize 1 + (ls.take k).flatten.length = m at *
      generalize (⟨kind, n, ls.length, 0, s⟩ :: (ls.take k).flatten : List Nd).flatMap ndc = xs at *
      obtain ⟨L, hL⟩ : ∃ L, L = ls[k] := ⟨_, rfl⟩
      rw [← hL] at *
      clear hL
      go_wp2_with (at_builtin; refine wpList_pushAll (enc := ndc) rfl _ _ _ rfl Tryd.underlying22 hi hz0 hz1 hz2 rfl (by decide) hown rfl rfl rfl hrd hA0 hsp ndc_len ndc_one (by omega) (by decide) hb.size ?_; intro A2 c2 w2 ho2 hb2 hoo2)
      go_roundw
      case rel => exact ⟨k + 1, A2, c2, by omega, by go_num, by rw [HL.out], by rw [HL.out, HN.out]; exact ho2, hb.trans hb2⟩
      case measure => simp [intOf]; omega
    · obtain rfl : k = ls.length := by omega
      rw [List.take_length] at hown ⊢
      have HF := Lib.hid (show ((⟨kind, n, ls.length, 0, s⟩ :: ls.flatten : List Nd).flatMap ndc).set 3 (.int .i64 ((1 + ls.flatten.length : Nat) : Int)) = (newL kind n s ls).flatMap ndc by
        simp [newL, ndc])
      have HL := Lib.hid (newL_len kind n s ls)
      have hbd := HT.out
      have hm : 1 + ls.flatten.length ≤ 4000001 := by omega
      have hm1 : 1 ≤ 1 + ls.flatten.length := by omega
      have hx : ((⟨kind, n, ls.length, 0, s⟩ :: ls.flatten : List Nd).flatMap ndc)[3]? = some (.int .i64 0) := rfl
      clear hbd hlt hk
      generalize 1 + ls.flatten.length = m at *
      generalize (⟨kind, n, ls.length, 0, s⟩ :: ls.flatten : List Nd).flatMap ndc = xs at *
      rcases hown.2 with ⟨_, h0⟩ | ⟨g, cap, cur, he, hbg, hg, _⟩
      · omega
      · injection he with h1 _ h3
        subst h1 h3
        clear hbg hg
        have hc3 := hown.cellAt 3 (by omega)
        rw [hx] at hc3
        have hf3 := hown.frozenAt 3
        obtain ⟨hs1, hs2⟩ := hown.stored 3 (.int .i64 m)
        rw [HF.out] at hs1
        have hbs := hb.grown hs2 hb.size (fun j hj => by cases hj; exact (hown.lt _ rfl).1)
        clear hx hs2
        go_wp2_with fail
        go_ret
        exact ⟨some ⟨g, 0, none⟩, c', ret_slice HL.out.symm, by rw [HL.out]; exact hs1, hbs⟩

def litL (s : List UInt8) : List Nd := newL 1 0 s []
theorem lit_any (s : List UInt8) (w : World) : Calls Tryd.prog 46 #[.string ⟨s.toArray⟩] w (NodesRet (litL s) w) := by
  go_enter Tryd.func46, Tryd.ntmps46
  go_wp2_with fail
  refine (new_any 1 0 s none 0 [] w (KdRd.nil _ _) (by simp) (by simp)).mono ?_
  rintro e w1 ⟨A, c, rfl, ho, hb⟩
  go_wp2_with fail
  go_ret
  exact ⟨A, c, rfl, ho, hb⟩

set_option maxHeartbeats 2000000 in
theorem clone_any (v : Value) (L : List Nd) (w : World) (h : SlRd w v L) (hl : L.length ≤ 4000000) : Calls Tryd.prog 92 #[v] w (NodesRet L w) := by
  obtain ⟨A, c, rfl, hrd, hc, hm, hA, hsp⟩ := h
  obtain ⟨i0, hi, hz0, hz1, hz2⟩ := info_parts infoNode
  have hE := fun (W : World) (a : Option Addr) (n c : Nat) => Lib.run_eql_slice_nil (P := Tryd.prog) W 22 98 a n c 0 0 Tryd.underlying22
  cases A with
  | none =>
    obtain rfl := hA rfl
    obtain rfl : L = [] := List.eq_nil_of_length_eq_zero (by omega)
    go_enter Tryd.func92, Tryd.ntmps92
    go_wp2_with fail
    go_ret
    exact ⟨none, 0, rfl, World.ownsRow_nil _ _ _ _, Below.refl _ _⟩
  | some ad =>
    have hown0 : (w.alloc (.cells #[] 98)).ownsRow w.heap.size 98 5 (.slice (some ⟨w.heap.size, 0, none⟩) 0 0) 0 [] := World.ownsRow_lit w #[] 0 (Nat.le_refl _) (by decide) rfl
    have hrd0 := hrd.alloc (.cells #[] 98)
    have hb0 : Below w.heap.size w (w.alloc (.cells #[] 98)) := (Below.refl _ _).alloc (Nat.le_refl _) _
    have hH := Lib.hid hA
    clear hA
    go_enter Tryd.func92, Tryd.ntmps92
    go_wp2_with (at_builtin; refine wpList_pushAll (enc := ndc) rfl _ _ _ rfl Tryd.underlying22 hi hz0 hz1 hz2 rfl (by decide) hown0 rfl rfl rfl hrd0 hH.out hsp ndc_len ndc_one (by omega) (by decide) hb0.size ?_; intro A2 c2 w2 ho2 hb2 hoo2)
    go_ret
    exact ⟨A2, c2, ret_slice (by omega), by rw [Nat.zero_add, List.nil_append] at ho2; exact ho2, hb0.trans hb2⟩
end Go.Proofs.YtpogngdddendiaaDoor

/- The walk over core.Kids: it returns copies of the children, in memory of its own. Bounds on the lengths. -/
set_option linter.unusedVariables false
set_option linter.unusedSimpArgs false
namespace Go.Proofs.YtpogngdddendiaaDoor
open Go.RowKit

set_option maxHeartbeats 2000000 in
theorem kids_any (v : Value) (L : List Nd) (w : World) (h : SlRd w v L) (hl : L.length ≤ 4000000) : Calls Tryd.prog 64 #[v] w (KidsRet (kidsL L) w) := by
  obtain ⟨A, cp, rfl, hrd, hc, hm, hA, hsp⟩ := h
  obtain ⟨i0, hi, hz0, hz1, hz2⟩ := info_parts infoNodes
  by_cases hl0 : L.length = 0
  · obtain rfl := List.eq_nil_of_length_eq_zero hl0
    go_enter Tryd.func64, Tryd.ntmps64
    go_wp2_with fail
    go_ret
    exact ⟨none, 0, [], rfl, World.ownsRow_nil _ _ _ _, OwnAll.nil _ _, Below.refl _ _⟩
  · have h0 : 0 < L.length := by omega
    have HK := Lib.hid (kidsL_eq h0)
    obtain ⟨b, o, rfl, hbl⟩ := hrd.addr h0
    have hc2 := (hrd.at_ h0).2 2 _ rfl
    have hc3 := (hrd.at_ h0).2 3 _ rfl
    obtain ⟨x, hx⟩ : ∃ x, x = L[0] := ⟨_, rfl⟩
    rw [← hx] at HK hc2 hc3
    simp only [Nat.zero_mul, Nat.add_zero] at hc2 hc3
    clear hx hl0
    obtain ⟨e, he⟩ : ∃ e : Nat, e = (min x.size L.length).toNat := ⟨_, rfl⟩
    rw [← he] at HK
    obtain ⟨m, hml⟩ : ∃ m, m = L.length := ⟨_, rfl⟩
    rw [← hml] at h0 hl hc he ⊢
    have HM := Lib.hid hml
    have HE := Lib.hid he
    clear he hml
    unfold maxLen at hm
    have hz : ((m : Int) == 0) = false := by rw [beq_eq_false_iff_ne]; omega
    go_enter Tryd.func64, Tryd.ntmps64
    go_wp2_with fail
    have hEm : min x.size (m : Int) ≤ m := Int.min_le_right _ _
    have HE' := HE.out
    generalize min x.size (m : Int) = E at *
    have HE2 := Lib.hid HE'
    clear HE' HE
    go_loopw [4, 5, 6] (fun v c i wr => ∃ (kk cc : Nat) (A' : Option Addr) (c' : Nat) (done : List (List Nd)) (vs : List Value), c = .int .i64 cc ∧ i = .int .i64 kk ∧ v = .slice A' done.length c' ∧ 1 ≤ cc ∧ cc ≤ m ∧ kk < cc ∧ done.length < cc ∧
        wr.ownsRow w.heap.size 22 1 (.slice A' done.length c') done.length vs ∧ OwnAll wr w.heap.size vs done ∧ Below w.heap.size w wr ∧ Hid (kidsL L = done ++ kidsGo L e (x.k.toNat - kk) cc))
      (fun _ c _ _ => m + 1 - (intOf c).toNat)
    case atStart => exact ⟨0, 1, none, 0, [], [], rfl, rfl, rfl, Nat.le_refl _, h0, Nat.one_pos, Nat.one_pos, World.ownsRow_nil _ _ _ _, OwnAll.nil _ _, Below.refl _ _, Lib.hid (by rw [HK.out]; rfl)⟩
    case round =>
      obtain ⟨kk, cc, A', c', done, vs, rfl, rfl, rfl, hc1, hcm, hkc, hdc, hown, hall, hb, HD⟩ := hrel
      have hend : (x.k ≤ kk ∨ E ≤ cc) → kidsL L = done := fun hh => by
        rw [HD.out]
        rcases hh with hh | hh
        · rw [show x.k.toNat - kk = 0 by omega]; simp [kidsGo]
        · rw [kidsGo_end (by rw [HE2.out]; omega), List.append_nil]
      have HEND := Lib.hid hend
      clear hend
      have hc2' := cell_keep hb hc2
      by_cases hk : (kk : Int) < x.k
      · by_cases hce : (cc : Int) < E
        · have hcl : cc < m := by omega
          have hcl' : cc < L.length := by rw [← HM.out]; exact hcl
          have hcs := cell_keep hb ((hrd.at_ hcl').2 3 _ rfl)
          have HX := Lib.hid (show L[cc].size < 1 ∨ L[cc].size > (e : Int) - cc → kidsL L = done from fun hh => by rw [HD.out, kidsGo_bad hcl' hh, List.append_nil])
          have hee : E = e := by rw [HE2.out]; omega
          have HX2 := Lib.hid (show ¬ L[cc].size < 1 → ¬ L[cc].size > (e : Int) - cc → kidsL L = done ++ ((L.drop cc).take L[cc].size.toNat) :: kidsGo L e (x.k.toNat - (kk + 1)) (cc + L[cc].size.toNat) from fun h1 h2 => by
            rw [HD.out, show x.k.toNat - kk = (x.k.toNat - (kk + 1)) + 1 by omega, kidsGo_some hcl' (by omega) h1 h2])
          generalize hy : L[cc].size = sz at *
          subst hee
          clear hcl' hy HD HE2
          by_cases hs1 : sz < 1
          · have hk0 := HX.out (.inl hs1)
            clear HX HX2 HEND
            have HK0 := Lib.hid hk0
            clear hk0
            go_wp2_with fail
            go_ret
            rw [HK0.out]
            exact ⟨A', c', vs, rfl, hown, hall, hb⟩
          · by_cases hs2 : sz > (e : Int) - cc
            · have hk0 := HX.out (.inr hs2)
              clear HX HX2 HEND
              have HK0 := Lib.hid hk0
              clear hk0
              go_wp2_with fail
              go_ret
              rw [HK0.out]
              exact ⟨A', c', vs, rfl, hown, hall, hb⟩
            · have HX3 := Lib.hid (HX2.out hs1 hs2)
              clear HX HX2 HEND
              obtain ⟨q, rfl⟩ : ∃ q : Nat, sz = q := ⟨sz.toNat, by omega⟩
              simp only [Int.toNat_natCast] at HX3
              go_wp2_with fail
              obtain ⟨X, hX⟩ : ∃ X, X = (L.drop cc).take q := ⟨_, rfl⟩
              have hcl2 : cc + q ≤ L.length := by rw [← HM.out]; omega
              have hXl : X.length = q := by rw [hX, List.length_take, List.length_drop]; omega
              have HXL := Lib.hid hXl
              rw [← hX] at HX3
              have hsl : SlRd wr (.slice (some ⟨b, o + cc * 5, none⟩) q (cp - cc)) X := by
                refine ⟨some ⟨b, o + cc * 5, none⟩, cp - cc, by rw [hXl], ?_, by omega, by unfold maxLen; omega, (fun h => by cases h), trivial⟩
                rw [hX]
                refine RdL.take (RdL.drop (hrd.below hb) cc ?_) q
                exact addr_drop
              refine (clone_any _ X _ hsl (by omega)).mono ?_
              clear hsl
              rintro e1 w1 ⟨A1, c1, rfl, ho1, hb1⟩
              rw [hXl] at ho1 ⊢
              clear hX hXl
              have hb1' := hb.trans (hb1.mono hb.size)
              have hown1 := own_below hown hb1
              have hall1 := hall.below hb1
              have hlen : done.length + 1 ≤ 4000001 := by omega
              go_wp2_with (at_builtin; refine wpList_push rfl _ _ _ rfl Tryd.underlying110 hi hz0 hz1 hz2 rfl (by decide) hown1 rfl rfl rfl (by simp [Value.oneCell']) (by omega) (by decide) hb1'.size ?_; intro A2 c2 w2 hown2 hb2 hoo2)
              go_roundw
              case rel =>
                refine ⟨kk + 1, cc + q, A2, c2, done ++ [X], vs ++ [.slice A1 q c1], by go_num, by go_num, by simp, by omega, by omega, by omega, by simp; omega, ?_, ?_, hb1'.trans hb2, ?_⟩
                · simpa using hown2
                · refine (hall1.others hoo2 (by decide)).append (OwnAll.one ?_)
                  rw [HXL.out]
                  exact own_mono (own_others ho1 hoo2 (by decide)) hb.size
                · exact Lib.hid (by rw [HX3.out]; simp)
              case measure => simp [intOf]; omega
        · have hk0 := HEND.out (.inr (by omega))
          clear HEND
          have HK0 := Lib.hid hk0
          clear hk0
          go_wp2_with fail
          go_ret
          rw [HK0.out]
          exact ⟨A', c', vs, rfl, hown, hall, hb⟩
      · have hk0 := HEND.out (.inl (by omega))
        clear HEND
        have HK0 := Lib.hid hk0
        clear hk0
        go_wp2_with fail
        go_ret
        rw [HK0.out]
        exact ⟨A', c', vs, rfl, hown, hall, hb⟩
end Go.Proofs.YtpogngdddendiaaDoor
