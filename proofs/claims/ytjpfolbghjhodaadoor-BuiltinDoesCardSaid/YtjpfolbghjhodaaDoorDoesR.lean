/- The walk over the document's own Do, whatever the name. Bounds on the lengths. -/
import Derived.Test.YtjpfolbghjhodaaDoorDoesL
import Derived.Test.YtjpfolbghjhodaaDoorDoesP
import Derived.Test.YtjpfolbghjhodaaDoorBuiltW5
import Derived.Test.YtjpfolbghjhodaaDoorRefN
import Derived.Test.YtjpfolbghjhodaaDoorRef2W7
import Derived.Test.YtjpfolbghjhodaaDoorLater
import Derived.Test.YtjpfolbghjhodaaDoorRel
set_option linter.unusedVariables false
set_option linter.unusedSimpArgs false
namespace Go.Proofs.YtjpfolbghjhodaaDoor
open Go.RowKit

theorem ba_eq_iff (a b : List UInt8) : ((⟨a.toArray⟩ : ByteArray) == ⟨b.toArray⟩) = true ↔ a = b := by
  show (a.toArray == b.toArray) = true ↔ _
  rw [beq_iff_eq]
  exact ⟨fun h => List.toArray_inj h, fun h => by rw [h]⟩
theorem extract_cellR (l : List UInt8) (a b : Nat) : ({ data := l.toArray } : ByteArray).extract a b = ⟨((l.take b).drop a).toArray⟩ := by
  have h : (({ data := l.toArray } : ByteArray).extract a b).data.toList = (l.take b).drop a := by
    rw [Lib.extract_data, List.drop_take]
  rw [← h]
theorem spaced_onR (L : List (List UInt8)) {k : Nat} (h : k < L.length) : spaced (L.take (k + 1)) = (if k = 0 then [] else spaced (L.take k) ++ [32]) ++ L[k] := by
  rw [List.take_succ_eq_append_getElem h]
  by_cases hk : k = 0
  · subst hk
    rw [List.take_zero, if_pos rfl]
    rfl
  · rw [if_neg hk]
    exact spaced_snoc _ _ (fun e => by have := congrArg List.length e; rw [List.length_take, List.length_nil] at this; omega)
theorem But.set6R (g : Nat) (x : World) (a b c d e f : Value) : But g x ((((((x.setCell ⟨g, 0, none⟩ a).setCell ⟨g, 1, none⟩ b).setCell ⟨g, 2, none⟩ c).setCell ⟨g, 3, none⟩ d).setCell ⟨g, 4, none⟩ e).setCell ⟨g, 5, none⟩ f) :=
  (((((But.set _ 0 _).trans (But.set _ 1 _)).trans (But.set _ 2 _)).trans (But.set _ 3 _)).trans (But.set _ 4 _)).trans (But.set _ 5 _)
set_option maxRecDepth 100000 in
set_option maxHeartbeats 40000000 in
theorem refdo_any (name inn : List UInt8) (A : Option Addr) (c : Nat) (L : List (List UInt8)) (w : World) (hrd : RdL w 1 strc A L) (hc : L.length ≤ c) (hsz : ∀ x ∈ L, x.length ≤ 100000) (hsum : L.length - 1 + sumL L ≤ 100000) (hin : inn.length ≤ 1000000) (hn : name.length ≤ 1000) :
    Calls Tryd.prog 23 #[.string ⟨name.toArray⟩, .string ⟨inn.toArray⟩, .slice A L.length c] w (Ret w (.tuple #[ocV ((doO name inn L).getD (oc0 [])), .bool (doO name inn L).isSome])) := by
  have HRD := Lib.hid (fun (W : World) (hW : Below w.heap.size w W) => hrd.below hW)
  have HNM := Lib.hid (show ∀ s : List UInt8, ((⟨name.toArray⟩ : ByteArray).toList == s) = decide (name = s) from fun s => by
    rw [Lib.toList_data, Bool.eq_iff_iff, beq_iff_eq, decide_eq_true_eq])
  have HSZ := Lib.hid hsz
  have HSUM := Lib.hid hsum
  obtain ⟨m, hm⟩ : ∃ m, m = L.length := ⟨_, rfl⟩
  have HM := Lib.hid hm
  rw [← hm] at hc ⊢
  have hm9 : m ≤ 100001 := by omega
  generalize hnm : (⟨name.toArray⟩ : ByteArray) = nm at *
  clear hrd hm hsum hsz hnm
  obtain ⟨w1, hw1⟩ : ∃ w1, w1 = w.alloc (.cells #[.string { data := #[] }, .string { data := #[] }, .int .i64 0, .string { data := #[] }, .string { data := #[] }, .bool false] 48) := ⟨_, rfl⟩
  have HB1 := Lib.hid (show Below w.heap.size w w1 by rw [hw1]; exact (Below.refl _ _).alloc (Nat.le_refl _) _)
  have HQ1 := Lib.hid (show Blk w1 w.heap.size 48 #[.string { data := #[] }, .string { data := #[] }, .int .i64 0, .string { data := #[] }, .string { data := #[] }, .bool false] by rw [hw1]; exact Blk.new w _ _)
  have HW1 := Lib.hid hw1
  obtain ⟨g6, hg6⟩ : ∃ g6, g6 = w.heap.size := ⟨_, rfl⟩
  have HG6 := Lib.hid hg6
  clear hw1
  go_enter Tryd.func23, Tryd.ntmps23
  go_upto_region 1 with (fail)
  rw [← HW1.out, ← hg6]
  rw [← hg6] at HQ1
  clear HW1 hg6
  go_upto_region 2 with (fail)
  have hb3 : Below w1.heap.size w1 (w1.alloc (.cells #[.string { data := #[] }, .string { data := inn.toArray }, .int .i64 0, .string { data := #[] }, .string { data := #[] }, .bool false] 48)) := (Below.refl _ _).alloc (Nat.le_refl _) _
  have K8 := Lib.hid (Blk.new w1 48 #[.string { data := #[] }, .string { data := inn.toArray }, .int .i64 0, .string { data := #[] }, .string { data := #[] }, .bool false])
  obtain ⟨g8, hg8⟩ : ∃ g, g = w1.heap.size := ⟨_, rfl⟩
  rw [← hg8] at K8 ⊢
  have HB := Lib.hid (HB1.out.trans (hb3.mono HB1.out.size))
  have K6 := Lib.hid (HQ1.out.below hb3)
  have HG8 := Lib.hid (show w.heap.size ≤ g8 by rw [hg8]; exact HB1.out.size)
  have HNE := Lib.hid (show g6 ≠ g8 by have := HQ1.out.lt; omega)
  clear hb3 hg8 HQ1 HB1
  generalize w1.alloc (.cells #[.string { data := #[] }, .string { data := inn.toArray }, .int .i64 0, .string { data := #[] }, .string { data := #[] }, .bool false] 48) = x at *
  go_wp2_with fail
  go_loopw [9, 10] (fun u i wr => ∃ k : Nat, k ≤ m ∧ i = .int .i64 k ∧ u = .string ⟨(spaced (L.take k)).toArray⟩ ∧ x = wr) (fun _ i _ => m - (intOf i).toNat)
  case atStart => exact ⟨0, Nat.zero_le _, rfl, rfl, rfl⟩
  case round =>
    obtain ⟨k, hk, rfl, rfl, hwr⟩ := hrel
    subst hwr
    by_cases hlt : k < m
    · have hlt' : k < L.length := by rw [← HM.out]; exact hlt
      obtain ⟨b, o, hA, e0⟩ := (HRD.out _ HB.out).str4 hlt'
      subst hA
      have HSP := Lib.hid (spaced_onR L hlt')
      have hsl : (spaced (L.take k)).length ≤ 100000 := by
        have h1 := spaced_take L k
        have := HSUM.out
        omega
      obtain ⟨y, hy⟩ : ∃ y, y = L[k] := ⟨_, rfl⟩
      rw [← hy] at e0 HSP
      have h100 : y.length ≤ 100000 := by rw [hy]; exact HSZ.out _ (List.getElem_mem hlt')
      have hxs : (⟨y.toArray⟩ : ByteArray).size ≤ 100000 := by show y.toArray.size ≤ _; rw [List.size_toArray]; exact h100
      obtain ⟨p, hp⟩ : ∃ p, p = spaced (L.take k) := ⟨_, rfl⟩
      rw [← hp] at HSP hsl ⊢
      have hps : (⟨p.toArray⟩ : ByteArray).size ≤ 100000 := by show p.toArray.size ≤ _; rw [List.size_toArray]; exact hsl
      have HA1 := Lib.hid (show (⟨p.toArray⟩ ++ ⟨#[32]⟩ ++ ⟨y.toArray⟩ : ByteArray) = ⟨(p ++ [32] ++ y).toArray⟩ by apply ByteArray.ext; simp)
      have HP0 := Lib.hid (show k = 0 → p = [] from fun h => by rw [hp, h, List.take_zero]; rfl)
      clear hy hlt' hp
      by_cases hk0 : k = 0
      · have hp0 := HP0.out hk0
        subst hp0
        subst hk0
        rw [Nat.add_zero] at e0
        have HA2 := Lib.hid (show (⟨#[]⟩ ++ ⟨y.toArray⟩ : ByteArray) = ⟨y.toArray⟩ by apply ByteArray.ext; simp)
        go_wp2_with fail
        go_roundw
        case rel => exact ⟨1, by omega, rfl, by rw [HSP.out, if_pos rfl]; first | exact congrArg Value.string HA2.out | rfl | simp, trivial⟩
        case measure => simp [intOf]; omega
      · have hk1 : decide ((0 : Int) < (k : Int)) = true := decide_eq_true (by omega)
        go_wp2_with fail
        go_roundw
        case rel =>
          exact ⟨k + 1, by omega, by go_num, by rw [HSP.out, if_neg hk0, HA1.out], trivial⟩
        case measure => simp [intOf]; omega
    · obtain rfl : k = m := by omega
      have HTL := Lib.hid (show L.take k = L by rw [HM.out, List.take_length])
      rw [HTL.out]
      clear hlt hk HTL
      have hsl : (spaced L).length ≤ 100000 := by
        have h1 := spaced_take L L.length
        rw [List.take_length] at h1
        have := HSUM.out
        omega
      obtain ⟨tx, htx⟩ : ∃ tx, tx = spaced L := ⟨_, rfl⟩
      have HTX := Lib.hid htx
      rw [← htx] at hsl ⊢
      have hts : (⟨tx.toArray⟩ : ByteArray).size ≤ 100000 := by show tx.toArray.size ≤ _; rw [List.size_toArray]; exact hsl
      clear htx
      by_cases h2 : k = 2
      · subst h2
        obtain ⟨a, b, hab⟩ := two_of HM.out.symm
        subst hab
        obtain ⟨gb, go, hA, -⟩ := (HRD.out _ HB.out).str4 (k := 0) (by simp)
        subst hA
        have HE := Lib.hid (fun (W : World) (hW : Below w.heap.size w W) => show W.cell? ⟨gb, go, none⟩ = some (.string ⟨a.toArray⟩) ∧ W.cell? ⟨gb, go + 1, none⟩ = some (.string ⟨b.toArray⟩) from by
          obtain ⟨gb1, go1, hA1, e0⟩ := (HRD.out W hW).str4 (k := 0) (by simp)
          obtain ⟨gb2, go2, hA2, e1⟩ := (HRD.out W hW).str4 (k := 1) (by simp)
          simp only [Option.some.injEq, Addr.mk.injEq, and_true] at hA1 hA2
          obtain ⟨rfl, rfl⟩ := hA1
          obtain ⟨rfl, rfl⟩ := hA2
          simp only [List.getElem_cons_zero, List.getElem_cons_succ, Nat.add_zero] at e0 e1
          exact ⟨e0, e1⟩)
        have e0 := (HE.out _ HB.out).1
        have e1 := (HE.out _ HB.out).2
        have HPA := Lib.hid (fun (W : World) => refparse_any ⟨a.toArray⟩ W (by show a.toArray.size ≤ _; rw [List.size_toArray]; exact Nat.le_trans (HSZ.out a (by simp)) (by decide)))
        have HPB := Lib.hid (fun (W : World) => refparse_any ⟨b.toArray⟩ W (by show b.toArray.size ≤ _; rw [List.size_toArray]; exact Nat.le_trans (HSZ.out b (by simp)) (by decide)))
        obtain ⟨pa, hpa⟩ : ∃ p, p = parR a := ⟨_, rfl⟩
        obtain ⟨pb, hpb⟩ : ∃ p, p = parR b := ⟨_, rfl⟩
        rw [show parR (⟨a.toArray⟩ : ByteArray).data.toList = parR a from rfl, ← hpa] at HPA
        rw [show parR (⟨b.toArray⟩ : ByteArray).data.toList = parR b from rfl, ← hpb] at HPB
        have HPAE := Lib.hid hpa
        have HPBE := Lib.hid hpb
        clear hpa hpb
        go_wp2_with fail
        refine (HPA.out _).mono ?_
        rintro e x2 ⟨rfl, hx2⟩
        obtain rfl : x = x2 := hx2.symm
        go_wp2_with fail
        refine (HPB.out _).mono ?_
        rintro e x3 ⟨rfl, hx2⟩
        obtain rfl : x = x3 := hx2.symm
        by_cases h0 : name = [101, 99, 104, 111]
        · have n0 : (nm.toList == [101, 99, 104, 111]) = true := (HNM.out [101, 99, 104, 111]).trans (decide_eq_true h0)
          have HO := Lib.hid (show doO name inn [a, b] = some ({ oc0 inn with out := spaced [a, b] ++ [10] }) by rw [h0]; rfl)
          clear h0
          rw [← HTX.out] at HO
          have HA := Lib.hid (show (⟨tx.toArray⟩ ++ ⟨#[10]⟩ : ByteArray) = ⟨(tx ++ [10]).toArray⟩ by apply ByteArray.ext; simp)
          have d0 := ((K8.out)).cell 0
          have d1 := ((K8.out)).cell 1
          have d2 := ((K8.out)).cell 2
          have d3 := ((K8.out)).cell 3
          have d4 := ((K8.out)).cell 4
          have d5 := ((K8.out)).cell 5
          have f0 := ((K8.out)).frozen 0
          have f1 := ((K8.out)).frozen 1
          have f2 := ((K8.out)).frozen 2
          have f3 := ((K8.out)).frozen 3
          have f4 := ((K8.out)).frozen 4
          have f5 := ((K8.out)).frozen 5
          simp only [List.getElem?_toArray, List.getElem?_cons_zero, List.getElem?_cons_succ] at d0 d1 d2 d3 d4 d5
          go_upto_region 52 with (fail)
          rw [HA.out]
          have q8 := K8.out.set 0 (.string ⟨(tx ++ [10]).toArray⟩)
          simp only [List.setIfInBounds_toArray, List.set_cons_zero, List.set_cons_succ] at q8
          have q6 := (But.set (B := g8) x 0 (.string ⟨(tx ++ [10]).toArray⟩)).blk K6.out HNE.out
          have qb := HB.out.trans ((But.set (B := g8) x 0 (.string ⟨(tx ++ [10]).toArray⟩)).below HG8.out HB.out.size)
          replace K8 := Lib.hid q8
          replace K6 := Lib.hid q6
          replace HB := Lib.hid qb
          clear q8 q6 qb
          try clear d0 d1 d2 d3 d4 d5 f0 f1 f2 f3 f4 f5
          generalize x.setCell ⟨g8, 0, none⟩ (.string ⟨(tx ++ [10]).toArray⟩) = x at *
          have d0 := ((K8.out)).cell 0
          have d1 := ((K8.out)).cell 1
          have d2 := ((K8.out)).cell 2
          have d3 := ((K8.out)).cell 3
          have d4 := ((K8.out)).cell 4
          have d5 := ((K8.out)).cell 5
          have f0 := ((K8.out)).frozen 0
          have f1 := ((K8.out)).frozen 1
          have f2 := ((K8.out)).frozen 2
          have f3 := ((K8.out)).frozen 3
          have f4 := ((K8.out)).frozen 4
          have f5 := ((K8.out)).frozen 5
          simp only [List.getElem?_toArray, List.getElem?_cons_zero, List.getElem?_cons_succ] at d0 d1 d2 d3 d4 d5
          clear f0 f1 f2 f3 f4 f5
          have e0 := K6.out.cell 0
          have e1 := K6.out.cell 1
          have e2 := K6.out.cell 2
          have e3 := K6.out.cell 3
          have e4 := K6.out.cell 4
          have e5 := K6.out.cell 5
          have f0 := K6.out.frozen 0
          have f1 := K6.out.frozen 1
          have f2 := K6.out.frozen 2
          have f3 := K6.out.frozen 3
          have f4 := K6.out.frozen 4
          have f5 := K6.out.frozen 5
          simp only [List.getElem?_toArray, List.getElem?_cons_zero, List.getElem?_cons_succ] at e0 e1 e2 e3 e4 e5
          go_wp2_with fail
          have hQ5 := K6.out.set6 (.string ⟨(tx ++ [10]).toArray⟩) (.string { data := inn.toArray }) (.int .i64 0) (.string { data := #[] }) (.string { data := #[] }) (.bool false)
          have hB5 := But.set6R g6 x (.string ⟨(tx ++ [10]).toArray⟩) (.string { data := inn.toArray }) (.int .i64 0) (.string { data := #[] }) (.string { data := #[] }) (.bool false)
          have t0 := hQ5.cell 0
          have t1 := hQ5.cell 1
          have t2 := hQ5.cell 2
          have t3 := hQ5.cell 3
          have t4 := hQ5.cell 4
          have t5 := hQ5.cell 5
          simp only [List.getElem?_toArray, List.getElem?_cons_zero, List.getElem?_cons_succ] at t0 t1 t2 t3 t4 t5
          have HBF := Lib.hid (HB.out.trans (hB5.below (by rw [HG6.out]; exact Nat.le_refl _) HB.out.size))
          generalize (((((x.setCell ⟨g6, 0, none⟩ (.string ⟨(tx ++ [10]).toArray⟩)).setCell ⟨g6, 1, none⟩ (.string { data := inn.toArray })).setCell ⟨g6, 2, none⟩ (.int .i64 0)).setCell ⟨g6, 3, none⟩ (.string { data := #[] })).setCell ⟨g6, 4, none⟩ (.string { data := #[] })).setCell ⟨g6, 5, none⟩ (.bool false) = wf at *
          refine bodyPost_ret (v := .tuple #[.agg #[(.string ⟨(tx ++ [10]).toArray⟩), (.string { data := inn.toArray }), (.int .i64 0), (.string { data := #[] }), (.string { data := #[] }), (.bool false)], .bool true]) (by simp [results, Tryd.results23, go_sem, t0, t1, t2, t3, t4, t5]) rfl ⟨by rw [HO.out]; rfl, HBF.out⟩
        by_cases h1 : name = [112, 117, 116]
        · have n0 : (nm.toList == [101, 99, 104, 111]) = false := (HNM.out [101, 99, 104, 111]).trans (decide_eq_false h0)
          have n1 : (nm.toList == [112, 117, 116]) = true := (HNM.out [112, 117, 116]).trans (decide_eq_true h1)
          have HO := Lib.hid (show doO name inn [a, b] = some ({ oc0 inn with out := spaced [a, b] }) by rw [h1]; rfl)
          clear h0 h1
          rw [← HTX.out] at HO
          have d0 := ((K8.out)).cell 0
          have d1 := ((K8.out)).cell 1
          have d2 := ((K8.out)).cell 2
          have d3 := ((K8.out)).cell 3
          have d4 := ((K8.out)).cell 4
          have d5 := ((K8.out)).cell 5
          have f0 := ((K8.out)).frozen 0
          have f1 := ((K8.out)).frozen 1
          have f2 := ((K8.out)).frozen 2
          have f3 := ((K8.out)).frozen 3
          have f4 := ((K8.out)).frozen 4
          have f5 := ((K8.out)).frozen 5
          simp only [List.getElem?_toArray, List.getElem?_cons_zero, List.getElem?_cons_succ] at d0 d1 d2 d3 d4 d5
          go_upto_region 52 with (fail)
          have q8 := K8.out.set 0 (.string ⟨tx.toArray⟩)
          simp only [List.setIfInBounds_toArray, List.set_cons_zero, List.set_cons_succ] at q8
          have q6 := (But.set (B := g8) x 0 (.string ⟨tx.toArray⟩)).blk K6.out HNE.out
          have qb := HB.out.trans ((But.set (B := g8) x 0 (.string ⟨tx.toArray⟩)).below HG8.out HB.out.size)
          replace K8 := Lib.hid q8
          replace K6 := Lib.hid q6
          replace HB := Lib.hid qb
          clear q8 q6 qb
          try clear d0 d1 d2 d3 d4 d5 f0 f1 f2 f3 f4 f5
          generalize x.setCell ⟨g8, 0, none⟩ (.string ⟨tx.toArray⟩) = x at *
          have d0 := ((K8.out)).cell 0
          have d1 := ((K8.out)).cell 1
          have d2 := ((K8.out)).cell 2
          have d3 := ((K8.out)).cell 3
          have d4 := ((K8.out)).cell 4
          have d5 := ((K8.out)).cell 5
          have f0 := ((K8.out)).frozen 0
          have f1 := ((K8.out)).frozen 1
          have f2 := ((K8.out)).frozen 2
          have f3 := ((K8.out)).frozen 3
          have f4 := ((K8.out)).frozen 4
          have f5 := ((K8.out)).frozen 5
          simp only [List.getElem?_toArray, List.getElem?_cons_zero, List.getElem?_cons_succ] at d0 d1 d2 d3 d4 d5
          clear f0 f1 f2 f3 f4 f5
          have e0 := K6.out.cell 0
          have e1 := K6.out.cell 1
          have e2 := K6.out.cell 2
          have e3 := K6.out.cell 3
          have e4 := K6.out.cell 4
          have e5 := K6.out.cell 5
          have f0 := K6.out.frozen 0
          have f1 := K6.out.frozen 1
          have f2 := K6.out.frozen 2
          have f3 := K6.out.frozen 3
          have f4 := K6.out.frozen 4
          have f5 := K6.out.frozen 5
          simp only [List.getElem?_toArray, List.getElem?_cons_zero, List.getElem?_cons_succ] at e0 e1 e2 e3 e4 e5
          go_wp2_with fail
          have hQ5 := K6.out.set6 (.string ⟨tx.toArray⟩) (.string { data := inn.toArray }) (.int .i64 0) (.string { data := #[] }) (.string { data := #[] }) (.bool false)
          have hB5 := But.set6R g6 x (.string ⟨tx.toArray⟩) (.string { data := inn.toArray }) (.int .i64 0) (.string { data := #[] }) (.string { data := #[] }) (.bool false)
          have t0 := hQ5.cell 0
          have t1 := hQ5.cell 1
          have t2 := hQ5.cell 2
          have t3 := hQ5.cell 3
          have t4 := hQ5.cell 4
          have t5 := hQ5.cell 5
          simp only [List.getElem?_toArray, List.getElem?_cons_zero, List.getElem?_cons_succ] at t0 t1 t2 t3 t4 t5
          have HBF := Lib.hid (HB.out.trans (hB5.below (by rw [HG6.out]; exact Nat.le_refl _) HB.out.size))
          generalize (((((x.setCell ⟨g6, 0, none⟩ (.string ⟨tx.toArray⟩)).setCell ⟨g6, 1, none⟩ (.string { data := inn.toArray })).setCell ⟨g6, 2, none⟩ (.int .i64 0)).setCell ⟨g6, 3, none⟩ (.string { data := #[] })).setCell ⟨g6, 4, none⟩ (.string { data := #[] })).setCell ⟨g6, 5, none⟩ (.bool false) = wf at *
          refine bodyPost_ret (v := .tuple #[.agg #[(.string ⟨tx.toArray⟩), (.string { data := inn.toArray }), (.int .i64 0), (.string { data := #[] }), (.string { data := #[] }), (.bool false)], .bool true]) (by simp [results, Tryd.results23, go_sem, t0, t1, t2, t3, t4, t5]) rfl ⟨by rw [HO.out]; rfl, HBF.out⟩
        by_cases h2 : name = [99, 97, 116]
        · have n0 : (nm.toList == [101, 99, 104, 111]) = false := (HNM.out [101, 99, 104, 111]).trans (decide_eq_false h0)
          have n1 : (nm.toList == [112, 117, 116]) = false := (HNM.out [112, 117, 116]).trans (decide_eq_false h1)
          have n2 : (nm.toList == [99, 97, 116]) = true := (HNM.out [99, 97, 116]).trans (decide_eq_true h2)
          have HO := Lib.hid (show doO name inn [a, b] = some ({ oc0 inn with out := inn, rest := [] }) by rw [h2]; rfl)
          clear h0 h1 h2
          have d0 := ((K8.out)).cell 0
          have d1 := ((K8.out)).cell 1
          have d2 := ((K8.out)).cell 2
          have d3 := ((K8.out)).cell 3
          have d4 := ((K8.out)).cell 4
          have d5 := ((K8.out)).cell 5
          have f0 := ((K8.out)).frozen 0
          have f1 := ((K8.out)).frozen 1
          have f2 := ((K8.out)).frozen 2
          have f3 := ((K8.out)).frozen 3
          have f4 := ((K8.out)).frozen 4
          have f5 := ((K8.out)).frozen 5
          simp only [List.getElem?_toArray, List.getElem?_cons_zero, List.getElem?_cons_succ] at d0 d1 d2 d3 d4 d5
          go_upto_region 23 with (fail)
          have q8 := K8.out.set 0 (.string ⟨inn.toArray⟩)
          simp only [List.setIfInBounds_toArray, List.set_cons_zero, List.set_cons_succ] at q8
          have q6 := (But.set (B := g8) x 0 (.string ⟨inn.toArray⟩)).blk K6.out HNE.out
          have qb := HB.out.trans ((But.set (B := g8) x 0 (.string ⟨inn.toArray⟩)).below HG8.out HB.out.size)
          replace K8 := Lib.hid q8
          replace K6 := Lib.hid q6
          replace HB := Lib.hid qb
          clear q8 q6 qb
          try clear d0 d1 d2 d3 d4 d5 f0 f1 f2 f3 f4 f5
          generalize x.setCell ⟨g8, 0, none⟩ (.string ⟨inn.toArray⟩) = x at *
          have d0 := ((K8.out)).cell 0
          have d1 := ((K8.out)).cell 1
          have d2 := ((K8.out)).cell 2
          have d3 := ((K8.out)).cell 3
          have d4 := ((K8.out)).cell 4
          have d5 := ((K8.out)).cell 5
          have f0 := ((K8.out)).frozen 0
          have f1 := ((K8.out)).frozen 1
          have f2 := ((K8.out)).frozen 2
          have f3 := ((K8.out)).frozen 3
          have f4 := ((K8.out)).frozen 4
          have f5 := ((K8.out)).frozen 5
          simp only [List.getElem?_toArray, List.getElem?_cons_zero, List.getElem?_cons_succ] at d0 d1 d2 d3 d4 d5
          go_upto_region 52 with (fail)
          have q8 := K8.out.set 1 (.string { data := #[] })
          simp only [List.setIfInBounds_toArray, List.set_cons_zero, List.set_cons_succ] at q8
          have q6 := (But.set (B := g8) x 1 (.string { data := #[] })).blk K6.out HNE.out
          have qb := HB.out.trans ((But.set (B := g8) x 1 (.string { data := #[] })).below HG8.out HB.out.size)
          replace K8 := Lib.hid q8
          replace K6 := Lib.hid q6
          replace HB := Lib.hid qb
          clear q8 q6 qb
          try clear d0 d1 d2 d3 d4 d5 f0 f1 f2 f3 f4 f5
          generalize x.setCell ⟨g8, 1, none⟩ (.string { data := #[] }) = x at *
          have d0 := ((K8.out)).cell 0
          have d1 := ((K8.out)).cell 1
          have d2 := ((K8.out)).cell 2
          have d3 := ((K8.out)).cell 3
          have d4 := ((K8.out)).cell 4
          have d5 := ((K8.out)).cell 5
          have f0 := ((K8.out)).frozen 0
          have f1 := ((K8.out)).frozen 1
          have f2 := ((K8.out)).frozen 2
          have f3 := ((K8.out)).frozen 3
          have f4 := ((K8.out)).frozen 4
          have f5 := ((K8.out)).frozen 5
          simp only [List.getElem?_toArray, List.getElem?_cons_zero, List.getElem?_cons_succ] at d0 d1 d2 d3 d4 d5
          clear f0 f1 f2 f3 f4 f5
          have e0 := K6.out.cell 0
          have e1 := K6.out.cell 1
          have e2 := K6.out.cell 2
          have e3 := K6.out.cell 3
          have e4 := K6.out.cell 4
          have e5 := K6.out.cell 5
          have f0 := K6.out.frozen 0
          have f1 := K6.out.frozen 1
          have f2 := K6.out.frozen 2
          have f3 := K6.out.frozen 3
          have f4 := K6.out.frozen 4
          have f5 := K6.out.frozen 5
          simp only [List.getElem?_toArray, List.getElem?_cons_zero, List.getElem?_cons_succ] at e0 e1 e2 e3 e4 e5
          go_wp2_with fail
          have hQ5 := K6.out.set6 (.string ⟨inn.toArray⟩) (.string { data := #[] }) (.int .i64 0) (.string { data := #[] }) (.string { data := #[] }) (.bool false)
          have hB5 := But.set6R g6 x (.string ⟨inn.toArray⟩) (.string { data := #[] }) (.int .i64 0) (.string { data := #[] }) (.string { data := #[] }) (.bool false)
          have t0 := hQ5.cell 0
          have t1 := hQ5.cell 1
          have t2 := hQ5.cell 2
          have t3 := hQ5.cell 3
          have t4 := hQ5.cell 4
          have t5 := hQ5.cell 5
          simp only [List.getElem?_toArray, List.getElem?_cons_zero, List.getElem?_cons_succ] at t0 t1 t2 t3 t4 t5
          have HBF := Lib.hid (HB.out.trans (hB5.below (by rw [HG6.out]; exact Nat.le_refl _) HB.out.size))
          generalize (((((x.setCell ⟨g6, 0, none⟩ (.string ⟨inn.toArray⟩)).setCell ⟨g6, 1, none⟩ (.string { data := #[] })).setCell ⟨g6, 2, none⟩ (.int .i64 0)).setCell ⟨g6, 3, none⟩ (.string { data := #[] })).setCell ⟨g6, 4, none⟩ (.string { data := #[] })).setCell ⟨g6, 5, none⟩ (.bool false) = wf at *
          refine bodyPost_ret (v := .tuple #[.agg #[(.string ⟨inn.toArray⟩), (.string { data := #[] }), (.int .i64 0), (.string { data := #[] }), (.string { data := #[] }), (.bool false)], .bool true]) (by simp [results, Tryd.results23, go_sem, t0, t1, t2, t3, t4, t5]) rfl ⟨by rw [HO.out]; rfl, HBF.out⟩
        by_cases h3 : name = [116, 114, 117, 101]
        · have n0 : (nm.toList == [101, 99, 104, 111]) = false := (HNM.out [101, 99, 104, 111]).trans (decide_eq_false h0)
          have n1 : (nm.toList == [112, 117, 116]) = false := (HNM.out [112, 117, 116]).trans (decide_eq_false h1)
          have n2 : (nm.toList == [99, 97, 116]) = false := (HNM.out [99, 97, 116]).trans (decide_eq_false h2)
          have n3 : (nm.toList == [116, 114, 117, 101]) = true := (HNM.out [116, 114, 117, 101]).trans (decide_eq_true h3)
          have HO := Lib.hid (show doO name inn [a, b] = some (oc0 inn) by rw [h3]; rfl)
          clear h0 h1 h2 h3
          go_upto_region 52 with (fail)
          have d0 := ((K8.out)).cell 0
          have d1 := ((K8.out)).cell 1
          have d2 := ((K8.out)).cell 2
          have d3 := ((K8.out)).cell 3
          have d4 := ((K8.out)).cell 4
          have d5 := ((K8.out)).cell 5
          have f0 := ((K8.out)).frozen 0
          have f1 := ((K8.out)).frozen 1
          have f2 := ((K8.out)).frozen 2
          have f3 := ((K8.out)).frozen 3
          have f4 := ((K8.out)).frozen 4
          have f5 := ((K8.out)).frozen 5
          simp only [List.getElem?_toArray, List.getElem?_cons_zero, List.getElem?_cons_succ] at d0 d1 d2 d3 d4 d5
          clear f0 f1 f2 f3 f4 f5
          have e0 := K6.out.cell 0
          have e1 := K6.out.cell 1
          have e2 := K6.out.cell 2
          have e3 := K6.out.cell 3
          have e4 := K6.out.cell 4
          have e5 := K6.out.cell 5
          have f0 := K6.out.frozen 0
          have f1 := K6.out.frozen 1
          have f2 := K6.out.frozen 2
          have f3 := K6.out.frozen 3
          have f4 := K6.out.frozen 4
          have f5 := K6.out.frozen 5
          simp only [List.getElem?_toArray, List.getElem?_cons_zero, List.getElem?_cons_succ] at e0 e1 e2 e3 e4 e5
          go_wp2_with fail
          have hQ5 := K6.out.set6 (.string { data := #[] }) (.string { data := inn.toArray }) (.int .i64 0) (.string { data := #[] }) (.string { data := #[] }) (.bool false)
          have hB5 := But.set6R g6 x (.string { data := #[] }) (.string { data := inn.toArray }) (.int .i64 0) (.string { data := #[] }) (.string { data := #[] }) (.bool false)
          have t0 := hQ5.cell 0
          have t1 := hQ5.cell 1
          have t2 := hQ5.cell 2
          have t3 := hQ5.cell 3
          have t4 := hQ5.cell 4
          have t5 := hQ5.cell 5
          simp only [List.getElem?_toArray, List.getElem?_cons_zero, List.getElem?_cons_succ] at t0 t1 t2 t3 t4 t5
          have HBF := Lib.hid (HB.out.trans (hB5.below (by rw [HG6.out]; exact Nat.le_refl _) HB.out.size))
          generalize (((((x.setCell ⟨g6, 0, none⟩ (.string { data := #[] })).setCell ⟨g6, 1, none⟩ (.string { data := inn.toArray })).setCell ⟨g6, 2, none⟩ (.int .i64 0)).setCell ⟨g6, 3, none⟩ (.string { data := #[] })).setCell ⟨g6, 4, none⟩ (.string { data := #[] })).setCell ⟨g6, 5, none⟩ (.bool false) = wf at *
          refine bodyPost_ret (v := .tuple #[.agg #[(.string { data := #[] }), (.string { data := inn.toArray }), (.int .i64 0), (.string { data := #[] }), (.string { data := #[] }), (.bool false)], .bool true]) (by simp [results, Tryd.results23, go_sem, t0, t1, t2, t3, t4, t5]) rfl ⟨by rw [HO.out]; rfl, HBF.out⟩
        by_cases h4 : name = [102, 97, 108, 115, 101]
        · have n0 : (nm.toList == [101, 99, 104, 111]) = false := (HNM.out [101, 99, 104, 111]).trans (decide_eq_false h0)
          have n1 : (nm.toList == [112, 117, 116]) = false := (HNM.out [112, 117, 116]).trans (decide_eq_false h1)
          have n2 : (nm.toList == [99, 97, 116]) = false := (HNM.out [99, 97, 116]).trans (decide_eq_false h2)
          have n3 : (nm.toList == [116, 114, 117, 101]) = false := (HNM.out [116, 114, 117, 101]).trans (decide_eq_false h3)
          have n4 : (nm.toList == [102, 97, 108, 115, 101]) = true := (HNM.out [102, 97, 108, 115, 101]).trans (decide_eq_true h4)
          have HO := Lib.hid (show doO name inn [a, b] = some ({ oc0 inn with status := 1 }) by rw [h4]; rfl)
          clear h0 h1 h2 h3 h4
          have d0 := ((K8.out)).cell 0
          have d1 := ((K8.out)).cell 1
          have d2 := ((K8.out)).cell 2
          have d3 := ((K8.out)).cell 3
          have d4 := ((K8.out)).cell 4
          have d5 := ((K8.out)).cell 5
          have f0 := ((K8.out)).frozen 0
          have f1 := ((K8.out)).frozen 1
          have f2 := ((K8.out)).frozen 2
          have f3 := ((K8.out)).frozen 3
          have f4 := ((K8.out)).frozen 4
          have f5 := ((K8.out)).frozen 5
          simp only [List.getElem?_toArray, List.getElem?_cons_zero, List.getElem?_cons_succ] at d0 d1 d2 d3 d4 d5
          go_upto_region 54 with (fail)
          have q8 := K8.out.set 2 (.int .i64 1)
          simp only [List.setIfInBounds_toArray, List.set_cons_zero, List.set_cons_succ] at q8
          have q6 := (But.set (B := g8) x 2 (.int .i64 1)).blk K6.out HNE.out
          have qb := HB.out.trans ((But.set (B := g8) x 2 (.int .i64 1)).below HG8.out HB.out.size)
          replace K8 := Lib.hid q8
          replace K6 := Lib.hid q6
          replace HB := Lib.hid qb
          clear q8 q6 qb
          try clear d0 d1 d2 d3 d4 d5 f0 f1 f2 f3 f4 f5
          generalize x.setCell ⟨g8, 2, none⟩ (.int .i64 1) = x at *
          have d0 := ((K8.out)).cell 0
          have d1 := ((K8.out)).cell 1
          have d2 := ((K8.out)).cell 2
          have d3 := ((K8.out)).cell 3
          have d4 := ((K8.out)).cell 4
          have d5 := ((K8.out)).cell 5
          have f0 := ((K8.out)).frozen 0
          have f1 := ((K8.out)).frozen 1
          have f2 := ((K8.out)).frozen 2
          have f3 := ((K8.out)).frozen 3
          have f4 := ((K8.out)).frozen 4
          have f5 := ((K8.out)).frozen 5
          simp only [List.getElem?_toArray, List.getElem?_cons_zero, List.getElem?_cons_succ] at d0 d1 d2 d3 d4 d5
          clear f0 f1 f2 f3 f4 f5
          have e0 := K6.out.cell 0
          have e1 := K6.out.cell 1
          have e2 := K6.out.cell 2
          have e3 := K6.out.cell 3
          have e4 := K6.out.cell 4
          have e5 := K6.out.cell 5
          have f0 := K6.out.frozen 0
          have f1 := K6.out.frozen 1
          have f2 := K6.out.frozen 2
          have f3 := K6.out.frozen 3
          have f4 := K6.out.frozen 4
          have f5 := K6.out.frozen 5
          simp only [List.getElem?_toArray, List.getElem?_cons_zero, List.getElem?_cons_succ] at e0 e1 e2 e3 e4 e5
          go_wp2_with fail
          have hQ5 := K6.out.set6 (.string { data := #[] }) (.string { data := inn.toArray }) (.int .i64 1) (.string { data := #[] }) (.string { data := #[] }) (.bool false)
          have hB5 := But.set6R g6 x (.string { data := #[] }) (.string { data := inn.toArray }) (.int .i64 1) (.string { data := #[] }) (.string { data := #[] }) (.bool false)
          have t0 := hQ5.cell 0
          have t1 := hQ5.cell 1
          have t2 := hQ5.cell 2
          have t3 := hQ5.cell 3
          have t4 := hQ5.cell 4
          have t5 := hQ5.cell 5
          simp only [List.getElem?_toArray, List.getElem?_cons_zero, List.getElem?_cons_succ] at t0 t1 t2 t3 t4 t5
          have HBF := Lib.hid (HB.out.trans (hB5.below (by rw [HG6.out]; exact Nat.le_refl _) HB.out.size))
          generalize (((((x.setCell ⟨g6, 0, none⟩ (.string { data := #[] })).setCell ⟨g6, 1, none⟩ (.string { data := inn.toArray })).setCell ⟨g6, 2, none⟩ (.int .i64 1)).setCell ⟨g6, 3, none⟩ (.string { data := #[] })).setCell ⟨g6, 4, none⟩ (.string { data := #[] })).setCell ⟨g6, 5, none⟩ (.bool false) = wf at *
          refine bodyPost_ret (v := .tuple #[.agg #[(.string { data := #[] }), (.string { data := inn.toArray }), (.int .i64 1), (.string { data := #[] }), (.string { data := #[] }), (.bool false)], .bool true]) (by simp [results, Tryd.results23, go_sem, t0, t1, t2, t3, t4, t5]) rfl ⟨by rw [HO.out]; rfl, HBF.out⟩
        by_cases h5 : name = [101, 113]
        · have n0 : (nm.toList == [101, 99, 104, 111]) = false := (HNM.out [101, 99, 104, 111]).trans (decide_eq_false h0)
          have n1 : (nm.toList == [112, 117, 116]) = false := (HNM.out [112, 117, 116]).trans (decide_eq_false h1)
          have n2 : (nm.toList == [99, 97, 116]) = false := (HNM.out [99, 97, 116]).trans (decide_eq_false h2)
          have n3 : (nm.toList == [116, 114, 117, 101]) = false := (HNM.out [116, 114, 117, 101]).trans (decide_eq_false h3)
          have n4 : (nm.toList == [102, 97, 108, 115, 101]) = false := (HNM.out [102, 97, 108, 115, 101]).trans (decide_eq_false h4)
          have n5 : (nm.toList == [101, 113]) = true := (HNM.out [101, 113]).trans (decide_eq_true h5)
          have HO := Lib.hid (show doO name inn [a, b] = some ({ oc0 inn with status := if eqA [a, b] then 0 else 1 }) by rw [h5]; rfl)
          clear h0 h1 h2 h3 h4 h5
          go_upto_region 28 with (fail)
          have HE1 := Lib.hid (show (a == b) = eqA [a, b] by
            show (a == b) = decide (a = b)
            rw [Bool.eq_iff_iff, beq_iff_eq, decide_eq_true_eq])
          generalize hq : eqA [a, b] = q at *
          clear hq
          have l0 := Later.cell e0
          have l1 := Later.cell e1
          have hqe := HE1.out
          refine wp_region_eq (by kernel_rfl) (by kernel_rfl) ?_
          apply EqGo.run
          focus
            kernel_rfl
          focus
            intro x K hK
            go_wp2_with fail
            first | exact hK x (Below.refl _ _) | exact Below.refl _ _
          simp only [Act.put, List.setIfInBounds_toArray, List.set_cons_succ, List.set_cons_zero]
          apply EqGo.run
          focus
            kernel_rfl
          focus
            intro x K hK
            go_wp2_with fail
            first | exact hK x (Below.refl _ _) | exact Below.refl _ _
          simp only [Act.put, List.setIfInBounds_toArray, List.set_cons_succ, List.set_cons_zero]
          apply EqGo.run
          focus
            kernel_rfl
          focus
            intro x K hK
            go_wp2_with fail
            first | exact hK x (Below.refl _ _) | exact Below.refl _ _
          simp only [Act.put, List.setIfInBounds_toArray, List.set_cons_succ, List.set_cons_zero]
          apply EqGo.run
          focus
            kernel_rfl
          focus
            intro x K hK
            go_wp2_with fail
            first | exact hK x (Below.refl _ _) | exact Below.refl _ _
          simp only [Act.put, List.setIfInBounds_toArray, List.set_cons_succ, List.set_cons_zero]
          apply EqGo.run
          focus
            kernel_rfl
          focus
            intro x K hK
            go_wp2_with fail
            first | exact hK x (Below.refl _ _) | exact Below.refl _ _
          simp only [Act.put, List.setIfInBounds_toArray, List.set_cons_succ, List.set_cons_zero]
          apply EqGo.run
          focus
            kernel_rfl
          focus
            intro x K hK
            go_wp2_with fail
            first | exact hK x (Below.refl _ _) | exact Below.refl _ _
          simp only [Act.put, List.setIfInBounds_toArray, List.set_cons_succ, List.set_cons_zero]
          apply EqGo.run
          focus
            kernel_rfl
          focus
            intro x K hK
            go_wp2_with fail
            first | exact hK x (Below.refl _ _) | exact Below.refl _ _
          simp only [Act.put, List.setIfInBounds_toArray, List.set_cons_succ, List.set_cons_zero]
          apply EqGo.run
          focus
            kernel_rfl
          focus
            intro x K hK
            go_wp2_with fail
            first | exact hK x (Below.refl _ _) | exact Below.refl _ _
          simp only [Act.put, List.setIfInBounds_toArray, List.set_cons_succ, List.set_cons_zero]
          apply EqGo.run
          focus
            kernel_rfl
          focus
            intro x K hK
            go_wp2_with fail
            first | exact hK x (Below.refl _ _) | exact Below.refl _ _
          simp only [Act.put, List.setIfInBounds_toArray, List.set_cons_succ, List.set_cons_zero]
          apply EqGo.run
          focus
            kernel_rfl
          focus
            intro x K hK
            go_wp2_with fail
            first | exact hK x (Below.refl _ _) | exact Below.refl _ _
          simp only [Act.put, List.setIfInBounds_toArray, List.set_cons_succ, List.set_cons_zero]
          apply EqGo.run
          focus
            kernel_rfl
          focus
            intro x K hK
            go_wp2_with fail
            first | exact hK x (Below.refl _ _) | exact Below.refl _ _
          simp only [Act.put, List.setIfInBounds_toArray, List.set_cons_succ, List.set_cons_zero]
          apply EqGo.run
          focus
            kernel_rfl
          focus
            intro x K hK
            go_wp2_with fail
            first | exact hK x (Below.refl _ _) | exact Below.refl _ _
          simp only [Act.put, List.setIfInBounds_toArray, List.set_cons_succ, List.set_cons_zero]
          apply EqGo.run
          focus
            kernel_rfl
          focus
            intro x K hK
            go_wp2_with fail
            first | exact hK x (Below.refl _ _) | exact Below.refl _ _
          simp only [Act.put, List.setIfInBounds_toArray, List.set_cons_succ, List.set_cons_zero]
          intro x0
          have qx := x0.below
          replace K8 := Lib.hid (K8.out.below qx)
          replace K6 := Lib.hid (K6.out.below qx)
          replace HB := Lib.hid (HB.out.trans (qx.mono HB.out.size))
          clear qx
          generalize x0.val = x at *
          clear x0
          clear l0 l1
          cases q with
          | true =>
            go_upto_region 52 with (fail)
            have d0 := ((K8.out)).cell 0
            have d1 := ((K8.out)).cell 1
            have d2 := ((K8.out)).cell 2
            have d3 := ((K8.out)).cell 3
            have d4 := ((K8.out)).cell 4
            have d5 := ((K8.out)).cell 5
            have f0 := ((K8.out)).frozen 0
            have f1 := ((K8.out)).frozen 1
            have f2 := ((K8.out)).frozen 2
            have f3 := ((K8.out)).frozen 3
            have f4 := ((K8.out)).frozen 4
            have f5 := ((K8.out)).frozen 5
            simp only [List.getElem?_toArray, List.getElem?_cons_zero, List.getElem?_cons_succ] at d0 d1 d2 d3 d4 d5
            clear f0 f1 f2 f3 f4 f5
            have e0 := K6.out.cell 0
            have e1 := K6.out.cell 1
            have e2 := K6.out.cell 2
            have e3 := K6.out.cell 3
            have e4 := K6.out.cell 4
            have e5 := K6.out.cell 5
            have f0 := K6.out.frozen 0
            have f1 := K6.out.frozen 1
            have f2 := K6.out.frozen 2
            have f3 := K6.out.frozen 3
            have f4 := K6.out.frozen 4
            have f5 := K6.out.frozen 5
            simp only [List.getElem?_toArray, List.getElem?_cons_zero, List.getElem?_cons_succ] at e0 e1 e2 e3 e4 e5
            go_wp2_with fail
            have hQ5 := K6.out.set6 (.string { data := #[] }) (.string { data := inn.toArray }) (.int .i64 0) (.string { data := #[] }) (.string { data := #[] }) (.bool false)
            have hB5 := But.set6R g6 x (.string { data := #[] }) (.string { data := inn.toArray }) (.int .i64 0) (.string { data := #[] }) (.string { data := #[] }) (.bool false)
            have t0 := hQ5.cell 0
            have t1 := hQ5.cell 1
            have t2 := hQ5.cell 2
            have t3 := hQ5.cell 3
            have t4 := hQ5.cell 4
            have t5 := hQ5.cell 5
            simp only [List.getElem?_toArray, List.getElem?_cons_zero, List.getElem?_cons_succ] at t0 t1 t2 t3 t4 t5
            have HBF := Lib.hid (HB.out.trans (hB5.below (by rw [HG6.out]; exact Nat.le_refl _) HB.out.size))
            generalize (((((x.setCell ⟨g6, 0, none⟩ (.string { data := #[] })).setCell ⟨g6, 1, none⟩ (.string { data := inn.toArray })).setCell ⟨g6, 2, none⟩ (.int .i64 0)).setCell ⟨g6, 3, none⟩ (.string { data := #[] })).setCell ⟨g6, 4, none⟩ (.string { data := #[] })).setCell ⟨g6, 5, none⟩ (.bool false) = wf at *
            refine bodyPost_ret (v := .tuple #[.agg #[(.string { data := #[] }), (.string { data := inn.toArray }), (.int .i64 0), (.string { data := #[] }), (.string { data := #[] }), (.bool false)], .bool true]) (by simp [results, Tryd.results23, go_sem, t0, t1, t2, t3, t4, t5]) rfl ⟨by rw [HO.out]; rfl, HBF.out⟩
          | false =>
            have d0 := ((K8.out)).cell 0
            have d1 := ((K8.out)).cell 1
            have d2 := ((K8.out)).cell 2
            have d3 := ((K8.out)).cell 3
            have d4 := ((K8.out)).cell 4
            have d5 := ((K8.out)).cell 5
            have f0 := ((K8.out)).frozen 0
            have f1 := ((K8.out)).frozen 1
            have f2 := ((K8.out)).frozen 2
            have f3 := ((K8.out)).frozen 3
            have f4 := ((K8.out)).frozen 4
            have f5 := ((K8.out)).frozen 5
            simp only [List.getElem?_toArray, List.getElem?_cons_zero, List.getElem?_cons_succ] at d0 d1 d2 d3 d4 d5
            go_upto_region 54 with (fail)
            have q8 := K8.out.set 2 (.int .i64 1)
            simp only [List.setIfInBounds_toArray, List.set_cons_zero, List.set_cons_succ] at q8
            have q6 := (But.set (B := g8) x 2 (.int .i64 1)).blk K6.out HNE.out
            have qb := HB.out.trans ((But.set (B := g8) x 2 (.int .i64 1)).below HG8.out HB.out.size)
            replace K8 := Lib.hid q8
            replace K6 := Lib.hid q6
            replace HB := Lib.hid qb
            clear q8 q6 qb
            try clear d0 d1 d2 d3 d4 d5 f0 f1 f2 f3 f4 f5
            generalize x.setCell ⟨g8, 2, none⟩ (.int .i64 1) = x at *
            have d0 := ((K8.out)).cell 0
            have d1 := ((K8.out)).cell 1
            have d2 := ((K8.out)).cell 2
            have d3 := ((K8.out)).cell 3
            have d4 := ((K8.out)).cell 4
            have d5 := ((K8.out)).cell 5
            have f0 := ((K8.out)).frozen 0
            have f1 := ((K8.out)).frozen 1
            have f2 := ((K8.out)).frozen 2
            have f3 := ((K8.out)).frozen 3
            have f4 := ((K8.out)).frozen 4
            have f5 := ((K8.out)).frozen 5
            simp only [List.getElem?_toArray, List.getElem?_cons_zero, List.getElem?_cons_succ] at d0 d1 d2 d3 d4 d5
            clear f0 f1 f2 f3 f4 f5
            have e0 := K6.out.cell 0
            have e1 := K6.out.cell 1
            have e2 := K6.out.cell 2
            have e3 := K6.out.cell 3
            have e4 := K6.out.cell 4
            have e5 := K6.out.cell 5
            have f0 := K6.out.frozen 0
            have f1 := K6.out.frozen 1
            have f2 := K6.out.frozen 2
            have f3 := K6.out.frozen 3
            have f4 := K6.out.frozen 4
            have f5 := K6.out.frozen 5
            simp only [List.getElem?_toArray, List.getElem?_cons_zero, List.getElem?_cons_succ] at e0 e1 e2 e3 e4 e5
            go_wp2_with fail
            have hQ5 := K6.out.set6 (.string { data := #[] }) (.string { data := inn.toArray }) (.int .i64 1) (.string { data := #[] }) (.string { data := #[] }) (.bool false)
            have hB5 := But.set6R g6 x (.string { data := #[] }) (.string { data := inn.toArray }) (.int .i64 1) (.string { data := #[] }) (.string { data := #[] }) (.bool false)
            have t0 := hQ5.cell 0
            have t1 := hQ5.cell 1
            have t2 := hQ5.cell 2
            have t3 := hQ5.cell 3
            have t4 := hQ5.cell 4
            have t5 := hQ5.cell 5
            simp only [List.getElem?_toArray, List.getElem?_cons_zero, List.getElem?_cons_succ] at t0 t1 t2 t3 t4 t5
            have HBF := Lib.hid (HB.out.trans (hB5.below (by rw [HG6.out]; exact Nat.le_refl _) HB.out.size))
            generalize (((((x.setCell ⟨g6, 0, none⟩ (.string { data := #[] })).setCell ⟨g6, 1, none⟩ (.string { data := inn.toArray })).setCell ⟨g6, 2, none⟩ (.int .i64 1)).setCell ⟨g6, 3, none⟩ (.string { data := #[] })).setCell ⟨g6, 4, none⟩ (.string { data := #[] })).setCell ⟨g6, 5, none⟩ (.bool false) = wf at *
            refine bodyPost_ret (v := .tuple #[.agg #[(.string { data := #[] }), (.string { data := inn.toArray }), (.int .i64 1), (.string { data := #[] }), (.string { data := #[] }), (.bool false)], .bool true]) (by simp [results, Tryd.results23, go_sem, t0, t1, t2, t3, t4, t5]) rfl ⟨by rw [HO.out]; rfl, HBF.out⟩
        by_cases h6 : name = [108, 105, 107, 101]
        · have n0 : (nm.toList == [101, 99, 104, 111]) = false := (HNM.out [101, 99, 104, 111]).trans (decide_eq_false h0)
          have n1 : (nm.toList == [112, 117, 116]) = false := (HNM.out [112, 117, 116]).trans (decide_eq_false h1)
          have n2 : (nm.toList == [99, 97, 116]) = false := (HNM.out [99, 97, 116]).trans (decide_eq_false h2)
          have n3 : (nm.toList == [116, 114, 117, 101]) = false := (HNM.out [116, 114, 117, 101]).trans (decide_eq_false h3)
          have n4 : (nm.toList == [102, 97, 108, 115, 101]) = false := (HNM.out [102, 97, 108, 115, 101]).trans (decide_eq_false h4)
          have n5 : (nm.toList == [101, 113]) = false := (HNM.out [101, 113]).trans (decide_eq_false h5)
          have n6 : (nm.toList == [108, 105, 107, 101]) = true := (HNM.out [108, 105, 107, 101]).trans (decide_eq_true h6)
          have HO := Lib.hid (show doO name inn [a, b] = some ({ oc0 inn with status := if likeA [a, b] then 0 else 1 }) by rw [h6]; rfl)
          clear h0 h1 h2 h3 h4 h5 h6
          go_upto_region 30 with (fail)
          have HMT := Lib.hid (fun (W : World) => match2_any ⟨b.toArray⟩ ⟨a.toArray⟩ W (by show b.toArray.size ≤ _; rw [List.size_toArray]; exact Nat.le_trans (HSZ.out b (by simp)) (by decide)) (by show a.toArray.size ≤ _; rw [List.size_toArray]; exact Nat.le_trans (HSZ.out a (by simp)) (by decide)))
          rw [show matchL (⟨b.toArray⟩ : ByteArray).data.toList (⟨a.toArray⟩ : ByteArray).data.toList = likeA [a, b] from rfl] at HMT
          generalize hq : likeA [a, b] = q at *
          clear hq
          have l0 := Later.cell e0
          have l1 := Later.cell e1
          refine wp_region_eq (by kernel_rfl) (by kernel_rfl) ?_
          apply EqGo.run
          focus
            kernel_rfl
          focus
            intro x K hK
            go_wp2_with fail
            first | exact hK x (Below.refl _ _) | exact Below.refl _ _
          simp only [Act.put, List.setIfInBounds_toArray, List.set_cons_succ, List.set_cons_zero]
          apply EqGo.run
          focus
            kernel_rfl
          focus
            intro x K hK
            go_wp2_with fail
            first | exact hK x (Below.refl _ _) | exact Below.refl _ _
          simp only [Act.put, List.setIfInBounds_toArray, List.set_cons_succ, List.set_cons_zero]
          apply EqGo.run
          focus
            kernel_rfl
          focus
            intro x K hK
            go_wp2_with fail
            first | exact hK x (Below.refl _ _) | exact Below.refl _ _
          simp only [Act.put, List.setIfInBounds_toArray, List.set_cons_succ, List.set_cons_zero]
          apply EqGo.run
          focus
            kernel_rfl
          focus
            intro x K hK
            go_wp2_with fail
            first | exact hK x (Below.refl _ _) | exact Below.refl _ _
          simp only [Act.put, List.setIfInBounds_toArray, List.set_cons_succ, List.set_cons_zero]
          apply EqGo.run
          focus
            kernel_rfl
          focus
            intro x K hK
            go_wp2_with fail
            first | exact hK x (Below.refl _ _) | exact Below.refl _ _
          simp only [Act.put, List.setIfInBounds_toArray, List.set_cons_succ, List.set_cons_zero]
          apply EqGo.run
          focus
            kernel_rfl
          focus
            intro x K hK
            go_wp2_with fail
            first | exact hK x (Below.refl _ _) | exact Below.refl _ _
          simp only [Act.put, List.setIfInBounds_toArray, List.set_cons_succ, List.set_cons_zero]
          apply EqGo.run
          focus
            kernel_rfl
          focus
            intro x K hK
            go_wp2_with fail
            first | exact hK x (Below.refl _ _) | exact Below.refl _ _
          simp only [Act.put, List.setIfInBounds_toArray, List.set_cons_succ, List.set_cons_zero]
          apply EqGo.run
          focus
            kernel_rfl
          focus
            intro x K hK
            go_wp2_with fail
            first | exact hK x (Below.refl _ _) | exact Below.refl _ _
          simp only [Act.put, List.setIfInBounds_toArray, List.set_cons_succ, List.set_cons_zero]
          apply EqGo.run
          focus
            kernel_rfl
          focus
            intro x K hK
            go_wp2_with fail
            first | exact hK x (Below.refl _ _) | exact Below.refl _ _
          simp only [Act.put, List.setIfInBounds_toArray, List.set_cons_succ, List.set_cons_zero]
          apply EqGo.run
          focus
            kernel_rfl
          focus
            intro x K hK
            go_wp2_with fail
            first | exact hK x (Below.refl _ _) | exact Below.refl _ _
          simp only [Act.put, List.setIfInBounds_toArray, List.set_cons_succ, List.set_cons_zero]
          apply EqGo.run
          focus
            kernel_rfl
          focus
            intro x K hK
            go_wp2_with fail
            refine (Hid.out HMT x.val).mono ?_
            rintro e x' ⟨rfl, hb'⟩
            exact hK ⟨x', x.below.trans (hb'.mono x.below.size)⟩ hb'
          simp only [Act.put, List.setIfInBounds_toArray, List.set_cons_succ, List.set_cons_zero]
          apply EqGo.run
          focus
            kernel_rfl
          focus
            intro x K hK
            go_wp2_with fail
            first | exact hK x (Below.refl _ _) | exact Below.refl _ _
          simp only [Act.put, List.setIfInBounds_toArray, List.set_cons_succ, List.set_cons_zero]
          apply EqGo.run
          focus
            kernel_rfl
          focus
            intro x K hK
            go_wp2_with fail
            first | exact hK x (Below.refl _ _) | exact Below.refl _ _
          simp only [Act.put, List.setIfInBounds_toArray, List.set_cons_succ, List.set_cons_zero]
          intro x0
          have qx := x0.below
          replace K8 := Lib.hid (K8.out.below qx)
          replace K6 := Lib.hid (K6.out.below qx)
          replace HB := Lib.hid (HB.out.trans (qx.mono HB.out.size))
          clear qx
          generalize x0.val = x at *
          clear x0
          clear l0 l1
          cases q with
          | true =>
            go_upto_region 52 with (fail)
            have d0 := ((K8.out)).cell 0
            have d1 := ((K8.out)).cell 1
            have d2 := ((K8.out)).cell 2
            have d3 := ((K8.out)).cell 3
            have d4 := ((K8.out)).cell 4
            have d5 := ((K8.out)).cell 5
            have f0 := ((K8.out)).frozen 0
            have f1 := ((K8.out)).frozen 1
            have f2 := ((K8.out)).frozen 2
            have f3 := ((K8.out)).frozen 3
            have f4 := ((K8.out)).frozen 4
            have f5 := ((K8.out)).frozen 5
            simp only [List.getElem?_toArray, List.getElem?_cons_zero, List.getElem?_cons_succ] at d0 d1 d2 d3 d4 d5
            clear f0 f1 f2 f3 f4 f5
            have e0 := K6.out.cell 0
            have e1 := K6.out.cell 1
            have e2 := K6.out.cell 2
            have e3 := K6.out.cell 3
            have e4 := K6.out.cell 4
            have e5 := K6.out.cell 5
            have f0 := K6.out.frozen 0
            have f1 := K6.out.frozen 1
            have f2 := K6.out.frozen 2
            have f3 := K6.out.frozen 3
            have f4 := K6.out.frozen 4
            have f5 := K6.out.frozen 5
            simp only [List.getElem?_toArray, List.getElem?_cons_zero, List.getElem?_cons_succ] at e0 e1 e2 e3 e4 e5
            go_wp2_with fail
            have hQ5 := K6.out.set6 (.string { data := #[] }) (.string { data := inn.toArray }) (.int .i64 0) (.string { data := #[] }) (.string { data := #[] }) (.bool false)
            have hB5 := But.set6R g6 x (.string { data := #[] }) (.string { data := inn.toArray }) (.int .i64 0) (.string { data := #[] }) (.string { data := #[] }) (.bool false)
            have t0 := hQ5.cell 0
            have t1 := hQ5.cell 1
            have t2 := hQ5.cell 2
            have t3 := hQ5.cell 3
            have t4 := hQ5.cell 4
            have t5 := hQ5.cell 5
            simp only [List.getElem?_toArray, List.getElem?_cons_zero, List.getElem?_cons_succ] at t0 t1 t2 t3 t4 t5
            have HBF := Lib.hid (HB.out.trans (hB5.below (by rw [HG6.out]; exact Nat.le_refl _) HB.out.size))
            generalize (((((x.setCell ⟨g6, 0, none⟩ (.string { data := #[] })).setCell ⟨g6, 1, none⟩ (.string { data := inn.toArray })).setCell ⟨g6, 2, none⟩ (.int .i64 0)).setCell ⟨g6, 3, none⟩ (.string { data := #[] })).setCell ⟨g6, 4, none⟩ (.string { data := #[] })).setCell ⟨g6, 5, none⟩ (.bool false) = wf at *
            refine bodyPost_ret (v := .tuple #[.agg #[(.string { data := #[] }), (.string { data := inn.toArray }), (.int .i64 0), (.string { data := #[] }), (.string { data := #[] }), (.bool false)], .bool true]) (by simp [results, Tryd.results23, go_sem, t0, t1, t2, t3, t4, t5]) rfl ⟨by rw [HO.out]; rfl, HBF.out⟩
          | false =>
            have d0 := ((K8.out)).cell 0
            have d1 := ((K8.out)).cell 1
            have d2 := ((K8.out)).cell 2
            have d3 := ((K8.out)).cell 3
            have d4 := ((K8.out)).cell 4
            have d5 := ((K8.out)).cell 5
            have f0 := ((K8.out)).frozen 0
            have f1 := ((K8.out)).frozen 1
            have f2 := ((K8.out)).frozen 2
            have f3 := ((K8.out)).frozen 3
            have f4 := ((K8.out)).frozen 4
            have f5 := ((K8.out)).frozen 5
            simp only [List.getElem?_toArray, List.getElem?_cons_zero, List.getElem?_cons_succ] at d0 d1 d2 d3 d4 d5
            go_upto_region 54 with (fail)
            have q8 := K8.out.set 2 (.int .i64 1)
            simp only [List.setIfInBounds_toArray, List.set_cons_zero, List.set_cons_succ] at q8
            have q6 := (But.set (B := g8) x 2 (.int .i64 1)).blk K6.out HNE.out
            have qb := HB.out.trans ((But.set (B := g8) x 2 (.int .i64 1)).below HG8.out HB.out.size)
            replace K8 := Lib.hid q8
            replace K6 := Lib.hid q6
            replace HB := Lib.hid qb
            clear q8 q6 qb
            try clear d0 d1 d2 d3 d4 d5 f0 f1 f2 f3 f4 f5
            generalize x.setCell ⟨g8, 2, none⟩ (.int .i64 1) = x at *
            have d0 := ((K8.out)).cell 0
            have d1 := ((K8.out)).cell 1
            have d2 := ((K8.out)).cell 2
            have d3 := ((K8.out)).cell 3
            have d4 := ((K8.out)).cell 4
            have d5 := ((K8.out)).cell 5
            have f0 := ((K8.out)).frozen 0
            have f1 := ((K8.out)).frozen 1
            have f2 := ((K8.out)).frozen 2
            have f3 := ((K8.out)).frozen 3
            have f4 := ((K8.out)).frozen 4
            have f5 := ((K8.out)).frozen 5
            simp only [List.getElem?_toArray, List.getElem?_cons_zero, List.getElem?_cons_succ] at d0 d1 d2 d3 d4 d5
            clear f0 f1 f2 f3 f4 f5
            have e0 := K6.out.cell 0
            have e1 := K6.out.cell 1
            have e2 := K6.out.cell 2
            have e3 := K6.out.cell 3
            have e4 := K6.out.cell 4
            have e5 := K6.out.cell 5
            have f0 := K6.out.frozen 0
            have f1 := K6.out.frozen 1
            have f2 := K6.out.frozen 2
            have f3 := K6.out.frozen 3
            have f4 := K6.out.frozen 4
            have f5 := K6.out.frozen 5
            simp only [List.getElem?_toArray, List.getElem?_cons_zero, List.getElem?_cons_succ] at e0 e1 e2 e3 e4 e5
            go_wp2_with fail
            have hQ5 := K6.out.set6 (.string { data := #[] }) (.string { data := inn.toArray }) (.int .i64 1) (.string { data := #[] }) (.string { data := #[] }) (.bool false)
            have hB5 := But.set6R g6 x (.string { data := #[] }) (.string { data := inn.toArray }) (.int .i64 1) (.string { data := #[] }) (.string { data := #[] }) (.bool false)
            have t0 := hQ5.cell 0
            have t1 := hQ5.cell 1
            have t2 := hQ5.cell 2
            have t3 := hQ5.cell 3
            have t4 := hQ5.cell 4
            have t5 := hQ5.cell 5
            simp only [List.getElem?_toArray, List.getElem?_cons_zero, List.getElem?_cons_succ] at t0 t1 t2 t3 t4 t5
            have HBF := Lib.hid (HB.out.trans (hB5.below (by rw [HG6.out]; exact Nat.le_refl _) HB.out.size))
            generalize (((((x.setCell ⟨g6, 0, none⟩ (.string { data := #[] })).setCell ⟨g6, 1, none⟩ (.string { data := inn.toArray })).setCell ⟨g6, 2, none⟩ (.int .i64 1)).setCell ⟨g6, 3, none⟩ (.string { data := #[] })).setCell ⟨g6, 4, none⟩ (.string { data := #[] })).setCell ⟨g6, 5, none⟩ (.bool false) = wf at *
            refine bodyPost_ret (v := .tuple #[.agg #[(.string { data := #[] }), (.string { data := inn.toArray }), (.int .i64 1), (.string { data := #[] }), (.string { data := #[] }), (.bool false)], .bool true]) (by simp [results, Tryd.results23, go_sem, t0, t1, t2, t3, t4, t5]) rfl ⟨by rw [HO.out]; rfl, HBF.out⟩
        by_cases h7 : name = [108, 101, 115, 115]
        · have n0 : (nm.toList == [101, 99, 104, 111]) = false := (HNM.out [101, 99, 104, 111]).trans (decide_eq_false h0)
          have n1 : (nm.toList == [112, 117, 116]) = false := (HNM.out [112, 117, 116]).trans (decide_eq_false h1)
          have n2 : (nm.toList == [99, 97, 116]) = false := (HNM.out [99, 97, 116]).trans (decide_eq_false h2)
          have n3 : (nm.toList == [116, 114, 117, 101]) = false := (HNM.out [116, 114, 117, 101]).trans (decide_eq_false h3)
          have n4 : (nm.toList == [102, 97, 108, 115, 101]) = false := (HNM.out [102, 97, 108, 115, 101]).trans (decide_eq_false h4)
          have n5 : (nm.toList == [101, 113]) = false := (HNM.out [101, 113]).trans (decide_eq_false h5)
          have n6 : (nm.toList == [108, 105, 107, 101]) = false := (HNM.out [108, 105, 107, 101]).trans (decide_eq_false h6)
          have n7 : (nm.toList == [108, 101, 115, 115]) = true := (HNM.out [108, 101, 115, 115]).trans (decide_eq_true h7)
          have HO := Lib.hid (show doO name inn [a, b] = some ({ oc0 inn with status := if lessA [a, b] then 0 else 1 }) by rw [h7]; rfl)
          clear h0 h1 h2 h3 h4 h5 h6 h7
          have hpa' := HPAE.out
          have hpb' := HPBE.out
          unfold parR at hpa' hpb'
          cases hp : (parseL a).2 with
          | false =>
            rw [hp] at hpa'
            simp only [Bool.false_eq_true, if_false] at hpa'
            clear hpb'
            subst hpa'
            replace HO := Lib.hid (show doO name inn [a, b] = some ⟨[], inn, 1, [], [], false⟩ by rw [HO.out]; unfold lessA; simp only [numA, hp]; rfl)
            clear hp
            have d0 := ((K8.out)).cell 0
            have d1 := ((K8.out)).cell 1
            have d2 := ((K8.out)).cell 2
            have d3 := ((K8.out)).cell 3
            have d4 := ((K8.out)).cell 4
            have d5 := ((K8.out)).cell 5
            have f0 := ((K8.out)).frozen 0
            have f1 := ((K8.out)).frozen 1
            have f2 := ((K8.out)).frozen 2
            have f3 := ((K8.out)).frozen 3
            have f4 := ((K8.out)).frozen 4
            have f5 := ((K8.out)).frozen 5
            simp only [List.getElem?_toArray, List.getElem?_cons_zero, List.getElem?_cons_succ] at d0 d1 d2 d3 d4 d5
            go_upto_region 54 with (fail)
            have q8 := K8.out.set 2 (.int .i64 1)
            simp only [List.setIfInBounds_toArray, List.set_cons_zero, List.set_cons_succ] at q8
            have q6 := (But.set (B := g8) x 2 (.int .i64 1)).blk K6.out HNE.out
            have qb := HB.out.trans ((But.set (B := g8) x 2 (.int .i64 1)).below HG8.out HB.out.size)
            replace K8 := Lib.hid q8
            replace K6 := Lib.hid q6
            replace HB := Lib.hid qb
            clear q8 q6 qb
            try clear d0 d1 d2 d3 d4 d5 f0 f1 f2 f3 f4 f5
            generalize x.setCell ⟨g8, 2, none⟩ (.int .i64 1) = x at *
            have d0 := ((K8.out)).cell 0
            have d1 := ((K8.out)).cell 1
            have d2 := ((K8.out)).cell 2
            have d3 := ((K8.out)).cell 3
            have d4 := ((K8.out)).cell 4
            have d5 := ((K8.out)).cell 5
            have f0 := ((K8.out)).frozen 0
            have f1 := ((K8.out)).frozen 1
            have f2 := ((K8.out)).frozen 2
            have f3 := ((K8.out)).frozen 3
            have f4 := ((K8.out)).frozen 4
            have f5 := ((K8.out)).frozen 5
            simp only [List.getElem?_toArray, List.getElem?_cons_zero, List.getElem?_cons_succ] at d0 d1 d2 d3 d4 d5
            clear f0 f1 f2 f3 f4 f5
            have e0 := K6.out.cell 0
            have e1 := K6.out.cell 1
            have e2 := K6.out.cell 2
            have e3 := K6.out.cell 3
            have e4 := K6.out.cell 4
            have e5 := K6.out.cell 5
            have f0 := K6.out.frozen 0
            have f1 := K6.out.frozen 1
            have f2 := K6.out.frozen 2
            have f3 := K6.out.frozen 3
            have f4 := K6.out.frozen 4
            have f5 := K6.out.frozen 5
            simp only [List.getElem?_toArray, List.getElem?_cons_zero, List.getElem?_cons_succ] at e0 e1 e2 e3 e4 e5
            go_wp2_with fail
            have hQ5 := K6.out.set6 (.string { data := #[] }) (.string { data := inn.toArray }) (.int .i64 1) (.string { data := #[] }) (.string { data := #[] }) (.bool false)
            have hB5 := But.set6R g6 x (.string { data := #[] }) (.string { data := inn.toArray }) (.int .i64 1) (.string { data := #[] }) (.string { data := #[] }) (.bool false)
            have t0 := hQ5.cell 0
            have t1 := hQ5.cell 1
            have t2 := hQ5.cell 2
            have t3 := hQ5.cell 3
            have t4 := hQ5.cell 4
            have t5 := hQ5.cell 5
            simp only [List.getElem?_toArray, List.getElem?_cons_zero, List.getElem?_cons_succ] at t0 t1 t2 t3 t4 t5
            have HBF := Lib.hid (HB.out.trans (hB5.below (by rw [HG6.out]; exact Nat.le_refl _) HB.out.size))
            generalize (((((x.setCell ⟨g6, 0, none⟩ (.string { data := #[] })).setCell ⟨g6, 1, none⟩ (.string { data := inn.toArray })).setCell ⟨g6, 2, none⟩ (.int .i64 1)).setCell ⟨g6, 3, none⟩ (.string { data := #[] })).setCell ⟨g6, 4, none⟩ (.string { data := #[] })).setCell ⟨g6, 5, none⟩ (.bool false) = wf at *
            refine bodyPost_ret (v := .tuple #[.agg #[(.string { data := #[] }), (.string { data := inn.toArray }), (.int .i64 1), (.string { data := #[] }), (.string { data := #[] }), (.bool false)], .bool true]) (by simp [results, Tryd.results23, go_sem, t0, t1, t2, t3, t4, t5]) rfl ⟨by rw [HO.out]; rfl, HBF.out⟩
          | true =>
            rw [hp] at hpa'
            simp only [if_true] at hpa'
            subst hpa'
            cases hq : (parseL b).2 with
            | false =>
              rw [hq] at hpb'
              simp only [Bool.false_eq_true, if_false] at hpb'
              subst hpb'
              replace HO := Lib.hid (show doO name inn [a, b] = some ⟨[], inn, 1, [], [], false⟩ by rw [HO.out]; unfold lessA; simp only [numA, hp, hq]; rfl)
              generalize (parseL a).1 = na at *
              clear hp hq
              have d0 := ((K8.out)).cell 0
              have d1 := ((K8.out)).cell 1
              have d2 := ((K8.out)).cell 2
              have d3 := ((K8.out)).cell 3
              have d4 := ((K8.out)).cell 4
              have d5 := ((K8.out)).cell 5
              have f0 := ((K8.out)).frozen 0
              have f1 := ((K8.out)).frozen 1
              have f2 := ((K8.out)).frozen 2
              have f3 := ((K8.out)).frozen 3
              have f4 := ((K8.out)).frozen 4
              have f5 := ((K8.out)).frozen 5
              simp only [List.getElem?_toArray, List.getElem?_cons_zero, List.getElem?_cons_succ] at d0 d1 d2 d3 d4 d5
              go_upto_region 54 with (fail)
              have q8 := K8.out.set 2 (.int .i64 1)
              simp only [List.setIfInBounds_toArray, List.set_cons_zero, List.set_cons_succ] at q8
              have q6 := (But.set (B := g8) x 2 (.int .i64 1)).blk K6.out HNE.out
              have qb := HB.out.trans ((But.set (B := g8) x 2 (.int .i64 1)).below HG8.out HB.out.size)
              replace K8 := Lib.hid q8
              replace K6 := Lib.hid q6
              replace HB := Lib.hid qb
              clear q8 q6 qb
              try clear d0 d1 d2 d3 d4 d5 f0 f1 f2 f3 f4 f5
              generalize x.setCell ⟨g8, 2, none⟩ (.int .i64 1) = x at *
              have d0 := ((K8.out)).cell 0
              have d1 := ((K8.out)).cell 1
              have d2 := ((K8.out)).cell 2
              have d3 := ((K8.out)).cell 3
              have d4 := ((K8.out)).cell 4
              have d5 := ((K8.out)).cell 5
              have f0 := ((K8.out)).frozen 0
              have f1 := ((K8.out)).frozen 1
              have f2 := ((K8.out)).frozen 2
              have f3 := ((K8.out)).frozen 3
              have f4 := ((K8.out)).frozen 4
              have f5 := ((K8.out)).frozen 5
              simp only [List.getElem?_toArray, List.getElem?_cons_zero, List.getElem?_cons_succ] at d0 d1 d2 d3 d4 d5
              clear f0 f1 f2 f3 f4 f5
              have e0 := K6.out.cell 0
              have e1 := K6.out.cell 1
              have e2 := K6.out.cell 2
              have e3 := K6.out.cell 3
              have e4 := K6.out.cell 4
              have e5 := K6.out.cell 5
              have f0 := K6.out.frozen 0
              have f1 := K6.out.frozen 1
              have f2 := K6.out.frozen 2
              have f3 := K6.out.frozen 3
              have f4 := K6.out.frozen 4
              have f5 := K6.out.frozen 5
              simp only [List.getElem?_toArray, List.getElem?_cons_zero, List.getElem?_cons_succ] at e0 e1 e2 e3 e4 e5
              go_wp2_with fail
              have hQ5 := K6.out.set6 (.string { data := #[] }) (.string { data := inn.toArray }) (.int .i64 1) (.string { data := #[] }) (.string { data := #[] }) (.bool false)
              have hB5 := But.set6R g6 x (.string { data := #[] }) (.string { data := inn.toArray }) (.int .i64 1) (.string { data := #[] }) (.string { data := #[] }) (.bool false)
              have t0 := hQ5.cell 0
              have t1 := hQ5.cell 1
              have t2 := hQ5.cell 2
              have t3 := hQ5.cell 3
              have t4 := hQ5.cell 4
              have t5 := hQ5.cell 5
              simp only [List.getElem?_toArray, List.getElem?_cons_zero, List.getElem?_cons_succ] at t0 t1 t2 t3 t4 t5
              have HBF := Lib.hid (HB.out.trans (hB5.below (by rw [HG6.out]; exact Nat.le_refl _) HB.out.size))
              generalize (((((x.setCell ⟨g6, 0, none⟩ (.string { data := #[] })).setCell ⟨g6, 1, none⟩ (.string { data := inn.toArray })).setCell ⟨g6, 2, none⟩ (.int .i64 1)).setCell ⟨g6, 3, none⟩ (.string { data := #[] })).setCell ⟨g6, 4, none⟩ (.string { data := #[] })).setCell ⟨g6, 5, none⟩ (.bool false) = wf at *
              refine bodyPost_ret (v := .tuple #[.agg #[(.string { data := #[] }), (.string { data := inn.toArray }), (.int .i64 1), (.string { data := #[] }), (.string { data := #[] }), (.bool false)], .bool true]) (by simp [results, Tryd.results23, go_sem, t0, t1, t2, t3, t4, t5]) rfl ⟨by rw [HO.out]; rfl, HBF.out⟩
            | true =>
              rw [hq] at hpb'
              simp only [if_true] at hpb'
              subst hpb'
              by_cases hlt : (parseL a).1 < (parseL b).1
              · replace HO := Lib.hid (show doO name inn [a, b] = some ⟨[], inn, 0, [], [], false⟩ by rw [HO.out]; unfold lessA; simp only [numA, hp, hq, decide_eq_true hlt]; rfl)
                generalize (parseL a).1 = na at *
                generalize (parseL b).1 = nb at *
                clear hp hq
                have hlt2 : (na : Int) < (nb : Int) := by omega
                go_upto_region 52 with (fail)
                have d0 := ((K8.out)).cell 0
                have d1 := ((K8.out)).cell 1
                have d2 := ((K8.out)).cell 2
                have d3 := ((K8.out)).cell 3
                have d4 := ((K8.out)).cell 4
                have d5 := ((K8.out)).cell 5
                have f0 := ((K8.out)).frozen 0
                have f1 := ((K8.out)).frozen 1
                have f2 := ((K8.out)).frozen 2
                have f3 := ((K8.out)).frozen 3
                have f4 := ((K8.out)).frozen 4
                have f5 := ((K8.out)).frozen 5
                simp only [List.getElem?_toArray, List.getElem?_cons_zero, List.getElem?_cons_succ] at d0 d1 d2 d3 d4 d5
                clear f0 f1 f2 f3 f4 f5
                have e0 := K6.out.cell 0
                have e1 := K6.out.cell 1
                have e2 := K6.out.cell 2
                have e3 := K6.out.cell 3
                have e4 := K6.out.cell 4
                have e5 := K6.out.cell 5
                have f0 := K6.out.frozen 0
                have f1 := K6.out.frozen 1
                have f2 := K6.out.frozen 2
                have f3 := K6.out.frozen 3
                have f4 := K6.out.frozen 4
                have f5 := K6.out.frozen 5
                simp only [List.getElem?_toArray, List.getElem?_cons_zero, List.getElem?_cons_succ] at e0 e1 e2 e3 e4 e5
                go_wp2_with fail
                have hQ5 := K6.out.set6 (.string { data := #[] }) (.string { data := inn.toArray }) (.int .i64 0) (.string { data := #[] }) (.string { data := #[] }) (.bool false)
                have hB5 := But.set6R g6 x (.string { data := #[] }) (.string { data := inn.toArray }) (.int .i64 0) (.string { data := #[] }) (.string { data := #[] }) (.bool false)
                have t0 := hQ5.cell 0
                have t1 := hQ5.cell 1
                have t2 := hQ5.cell 2
                have t3 := hQ5.cell 3
                have t4 := hQ5.cell 4
                have t5 := hQ5.cell 5
                simp only [List.getElem?_toArray, List.getElem?_cons_zero, List.getElem?_cons_succ] at t0 t1 t2 t3 t4 t5
                have HBF := Lib.hid (HB.out.trans (hB5.below (by rw [HG6.out]; exact Nat.le_refl _) HB.out.size))
                generalize (((((x.setCell ⟨g6, 0, none⟩ (.string { data := #[] })).setCell ⟨g6, 1, none⟩ (.string { data := inn.toArray })).setCell ⟨g6, 2, none⟩ (.int .i64 0)).setCell ⟨g6, 3, none⟩ (.string { data := #[] })).setCell ⟨g6, 4, none⟩ (.string { data := #[] })).setCell ⟨g6, 5, none⟩ (.bool false) = wf at *
                refine bodyPost_ret (v := .tuple #[.agg #[(.string { data := #[] }), (.string { data := inn.toArray }), (.int .i64 0), (.string { data := #[] }), (.string { data := #[] }), (.bool false)], .bool true]) (by simp [results, Tryd.results23, go_sem, t0, t1, t2, t3, t4, t5]) rfl ⟨by rw [HO.out]; rfl, HBF.out⟩
              · replace HO := Lib.hid (show doO name inn [a, b] = some ⟨[], inn, 1, [], [], false⟩ by rw [HO.out]; unfold lessA; simp only [numA, hp, hq, decide_eq_false hlt]; rfl)
                generalize (parseL a).1 = na at *
                generalize (parseL b).1 = nb at *
                clear hp hq
                have hlt2 : ¬ (na : Int) < (nb : Int) := by omega
                have d0 := ((K8.out)).cell 0
                have d1 := ((K8.out)).cell 1
                have d2 := ((K8.out)).cell 2
                have d3 := ((K8.out)).cell 3
                have d4 := ((K8.out)).cell 4
                have d5 := ((K8.out)).cell 5
                have f0 := ((K8.out)).frozen 0
                have f1 := ((K8.out)).frozen 1
                have f2 := ((K8.out)).frozen 2
                have f3 := ((K8.out)).frozen 3
                have f4 := ((K8.out)).frozen 4
                have f5 := ((K8.out)).frozen 5
                simp only [List.getElem?_toArray, List.getElem?_cons_zero, List.getElem?_cons_succ] at d0 d1 d2 d3 d4 d5
                go_upto_region 54 with (fail)
                have q8 := K8.out.set 2 (.int .i64 1)
                simp only [List.setIfInBounds_toArray, List.set_cons_zero, List.set_cons_succ] at q8
                have q6 := (But.set (B := g8) x 2 (.int .i64 1)).blk K6.out HNE.out
                have qb := HB.out.trans ((But.set (B := g8) x 2 (.int .i64 1)).below HG8.out HB.out.size)
                replace K8 := Lib.hid q8
                replace K6 := Lib.hid q6
                replace HB := Lib.hid qb
                clear q8 q6 qb
                try clear d0 d1 d2 d3 d4 d5 f0 f1 f2 f3 f4 f5
                generalize x.setCell ⟨g8, 2, none⟩ (.int .i64 1) = x at *
                have d0 := ((K8.out)).cell 0
                have d1 := ((K8.out)).cell 1
                have d2 := ((K8.out)).cell 2
                have d3 := ((K8.out)).cell 3
                have d4 := ((K8.out)).cell 4
                have d5 := ((K8.out)).cell 5
                have f0 := ((K8.out)).frozen 0
                have f1 := ((K8.out)).frozen 1
                have f2 := ((K8.out)).frozen 2
                have f3 := ((K8.out)).frozen 3
                have f4 := ((K8.out)).frozen 4
                have f5 := ((K8.out)).frozen 5
                simp only [List.getElem?_toArray, List.getElem?_cons_zero, List.getElem?_cons_succ] at d0 d1 d2 d3 d4 d5
                clear f0 f1 f2 f3 f4 f5
                have e0 := K6.out.cell 0
                have e1 := K6.out.cell 1
                have e2 := K6.out.cell 2
                have e3 := K6.out.cell 3
                have e4 := K6.out.cell 4
                have e5 := K6.out.cell 5
                have f0 := K6.out.frozen 0
                have f1 := K6.out.frozen 1
                have f2 := K6.out.frozen 2
                have f3 := K6.out.frozen 3
                have f4 := K6.out.frozen 4
                have f5 := K6.out.frozen 5
                simp only [List.getElem?_toArray, List.getElem?_cons_zero, List.getElem?_cons_succ] at e0 e1 e2 e3 e4 e5
                go_wp2_with fail
                have hQ5 := K6.out.set6 (.string { data := #[] }) (.string { data := inn.toArray }) (.int .i64 1) (.string { data := #[] }) (.string { data := #[] }) (.bool false)
                have hB5 := But.set6R g6 x (.string { data := #[] }) (.string { data := inn.toArray }) (.int .i64 1) (.string { data := #[] }) (.string { data := #[] }) (.bool false)
                have t0 := hQ5.cell 0
                have t1 := hQ5.cell 1
                have t2 := hQ5.cell 2
                have t3 := hQ5.cell 3
                have t4 := hQ5.cell 4
                have t5 := hQ5.cell 5
                simp only [List.getElem?_toArray, List.getElem?_cons_zero, List.getElem?_cons_succ] at t0 t1 t2 t3 t4 t5
                have HBF := Lib.hid (HB.out.trans (hB5.below (by rw [HG6.out]; exact Nat.le_refl _) HB.out.size))
                generalize (((((x.setCell ⟨g6, 0, none⟩ (.string { data := #[] })).setCell ⟨g6, 1, none⟩ (.string { data := inn.toArray })).setCell ⟨g6, 2, none⟩ (.int .i64 1)).setCell ⟨g6, 3, none⟩ (.string { data := #[] })).setCell ⟨g6, 4, none⟩ (.string { data := #[] })).setCell ⟨g6, 5, none⟩ (.bool false) = wf at *
                refine bodyPost_ret (v := .tuple #[.agg #[(.string { data := #[] }), (.string { data := inn.toArray }), (.int .i64 1), (.string { data := #[] }), (.string { data := #[] }), (.bool false)], .bool true]) (by simp [results, Tryd.results23, go_sem, t0, t1, t2, t3, t4, t5]) rfl ⟨by rw [HO.out]; rfl, HBF.out⟩
        by_cases h8 : name = [97, 100, 100]
        · have n0 : (nm.toList == [101, 99, 104, 111]) = false := (HNM.out [101, 99, 104, 111]).trans (decide_eq_false h0)
          have n1 : (nm.toList == [112, 117, 116]) = false := (HNM.out [112, 117, 116]).trans (decide_eq_false h1)
          have n2 : (nm.toList == [99, 97, 116]) = false := (HNM.out [99, 97, 116]).trans (decide_eq_false h2)
          have n3 : (nm.toList == [116, 114, 117, 101]) = false := (HNM.out [116, 114, 117, 101]).trans (decide_eq_false h3)
          have n4 : (nm.toList == [102, 97, 108, 115, 101]) = false := (HNM.out [102, 97, 108, 115, 101]).trans (decide_eq_false h4)
          have n5 : (nm.toList == [101, 113]) = false := (HNM.out [101, 113]).trans (decide_eq_false h5)
          have n6 : (nm.toList == [108, 105, 107, 101]) = false := (HNM.out [108, 105, 107, 101]).trans (decide_eq_false h6)
          have n7 : (nm.toList == [108, 101, 115, 115]) = false := (HNM.out [108, 101, 115, 115]).trans (decide_eq_false h7)
          have n8 : (nm.toList == [97, 100, 100]) = true := (HNM.out [97, 100, 100]).trans (decide_eq_true h8)
          have HO := Lib.hid (show doO name inn [a, b] = some (addA [a, b] (oc0 inn)) by rw [h8]; rfl)
          clear h0 h1 h2 h3 h4 h5 h6 h7 h8
          have hpa' := HPAE.out
          have hpb' := HPBE.out
          unfold parR at hpa' hpb'
          cases hp : (parseL a).2 with
          | false =>
            rw [hp] at hpa'
            simp only [Bool.false_eq_true, if_false] at hpa'
            clear hpb'
            subst hpa'
            replace HO := Lib.hid (show doO name inn [a, b] = some ⟨[], inn, 1, [], [], false⟩ by rw [HO.out]; unfold addA; simp only [numA, hp]; rfl)
            clear hp
            have d0 := ((K8.out)).cell 0
            have d1 := ((K8.out)).cell 1
            have d2 := ((K8.out)).cell 2
            have d3 := ((K8.out)).cell 3
            have d4 := ((K8.out)).cell 4
            have d5 := ((K8.out)).cell 5
            have f0 := ((K8.out)).frozen 0
            have f1 := ((K8.out)).frozen 1
            have f2 := ((K8.out)).frozen 2
            have f3 := ((K8.out)).frozen 3
            have f4 := ((K8.out)).frozen 4
            have f5 := ((K8.out)).frozen 5
            simp only [List.getElem?_toArray, List.getElem?_cons_zero, List.getElem?_cons_succ] at d0 d1 d2 d3 d4 d5
            go_upto_region 54 with (fail)
            have q8 := K8.out.set 2 (.int .i64 1)
            simp only [List.setIfInBounds_toArray, List.set_cons_zero, List.set_cons_succ] at q8
            have q6 := (But.set (B := g8) x 2 (.int .i64 1)).blk K6.out HNE.out
            have qb := HB.out.trans ((But.set (B := g8) x 2 (.int .i64 1)).below HG8.out HB.out.size)
            replace K8 := Lib.hid q8
            replace K6 := Lib.hid q6
            replace HB := Lib.hid qb
            clear q8 q6 qb
            try clear d0 d1 d2 d3 d4 d5 f0 f1 f2 f3 f4 f5
            generalize x.setCell ⟨g8, 2, none⟩ (.int .i64 1) = x at *
            have d0 := ((K8.out)).cell 0
            have d1 := ((K8.out)).cell 1
            have d2 := ((K8.out)).cell 2
            have d3 := ((K8.out)).cell 3
            have d4 := ((K8.out)).cell 4
            have d5 := ((K8.out)).cell 5
            have f0 := ((K8.out)).frozen 0
            have f1 := ((K8.out)).frozen 1
            have f2 := ((K8.out)).frozen 2
            have f3 := ((K8.out)).frozen 3
            have f4 := ((K8.out)).frozen 4
            have f5 := ((K8.out)).frozen 5
            simp only [List.getElem?_toArray, List.getElem?_cons_zero, List.getElem?_cons_succ] at d0 d1 d2 d3 d4 d5
            clear f0 f1 f2 f3 f4 f5
            have e0 := K6.out.cell 0
            have e1 := K6.out.cell 1
            have e2 := K6.out.cell 2
            have e3 := K6.out.cell 3
            have e4 := K6.out.cell 4
            have e5 := K6.out.cell 5
            have f0 := K6.out.frozen 0
            have f1 := K6.out.frozen 1
            have f2 := K6.out.frozen 2
            have f3 := K6.out.frozen 3
            have f4 := K6.out.frozen 4
            have f5 := K6.out.frozen 5
            simp only [List.getElem?_toArray, List.getElem?_cons_zero, List.getElem?_cons_succ] at e0 e1 e2 e3 e4 e5
            go_wp2_with fail
            have hQ5 := K6.out.set6 (.string { data := #[] }) (.string { data := inn.toArray }) (.int .i64 1) (.string { data := #[] }) (.string { data := #[] }) (.bool false)
            have hB5 := But.set6R g6 x (.string { data := #[] }) (.string { data := inn.toArray }) (.int .i64 1) (.string { data := #[] }) (.string { data := #[] }) (.bool false)
            have t0 := hQ5.cell 0
            have t1 := hQ5.cell 1
            have t2 := hQ5.cell 2
            have t3 := hQ5.cell 3
            have t4 := hQ5.cell 4
            have t5 := hQ5.cell 5
            simp only [List.getElem?_toArray, List.getElem?_cons_zero, List.getElem?_cons_succ] at t0 t1 t2 t3 t4 t5
            have HBF := Lib.hid (HB.out.trans (hB5.below (by rw [HG6.out]; exact Nat.le_refl _) HB.out.size))
            generalize (((((x.setCell ⟨g6, 0, none⟩ (.string { data := #[] })).setCell ⟨g6, 1, none⟩ (.string { data := inn.toArray })).setCell ⟨g6, 2, none⟩ (.int .i64 1)).setCell ⟨g6, 3, none⟩ (.string { data := #[] })).setCell ⟨g6, 4, none⟩ (.string { data := #[] })).setCell ⟨g6, 5, none⟩ (.bool false) = wf at *
            refine bodyPost_ret (v := .tuple #[.agg #[(.string { data := #[] }), (.string { data := inn.toArray }), (.int .i64 1), (.string { data := #[] }), (.string { data := #[] }), (.bool false)], .bool true]) (by simp [results, Tryd.results23, go_sem, t0, t1, t2, t3, t4, t5]) rfl ⟨by rw [HO.out]; rfl, HBF.out⟩
          | true =>
            rw [hp] at hpa'
            simp only [if_true] at hpa'
            subst hpa'
            cases hq : (parseL b).2 with
            | false =>
              rw [hq] at hpb'
              simp only [Bool.false_eq_true, if_false] at hpb'
              subst hpb'
              replace HO := Lib.hid (show doO name inn [a, b] = some ⟨[], inn, 1, [], [], false⟩ by rw [HO.out]; unfold addA; simp only [numA, hp, hq]; rfl)
              generalize (parseL a).1 = na at *
              clear hp hq
              have d0 := ((K8.out)).cell 0
              have d1 := ((K8.out)).cell 1
              have d2 := ((K8.out)).cell 2
              have d3 := ((K8.out)).cell 3
              have d4 := ((K8.out)).cell 4
              have d5 := ((K8.out)).cell 5
              have f0 := ((K8.out)).frozen 0
              have f1 := ((K8.out)).frozen 1
              have f2 := ((K8.out)).frozen 2
              have f3 := ((K8.out)).frozen 3
              have f4 := ((K8.out)).frozen 4
              have f5 := ((K8.out)).frozen 5
              simp only [List.getElem?_toArray, List.getElem?_cons_zero, List.getElem?_cons_succ] at d0 d1 d2 d3 d4 d5
              go_upto_region 54 with (fail)
              have q8 := K8.out.set 2 (.int .i64 1)
              simp only [List.setIfInBounds_toArray, List.set_cons_zero, List.set_cons_succ] at q8
              have q6 := (But.set (B := g8) x 2 (.int .i64 1)).blk K6.out HNE.out
              have qb := HB.out.trans ((But.set (B := g8) x 2 (.int .i64 1)).below HG8.out HB.out.size)
              replace K8 := Lib.hid q8
              replace K6 := Lib.hid q6
              replace HB := Lib.hid qb
              clear q8 q6 qb
              try clear d0 d1 d2 d3 d4 d5 f0 f1 f2 f3 f4 f5
              generalize x.setCell ⟨g8, 2, none⟩ (.int .i64 1) = x at *
              have d0 := ((K8.out)).cell 0
              have d1 := ((K8.out)).cell 1
              have d2 := ((K8.out)).cell 2
              have d3 := ((K8.out)).cell 3
              have d4 := ((K8.out)).cell 4
              have d5 := ((K8.out)).cell 5
              have f0 := ((K8.out)).frozen 0
              have f1 := ((K8.out)).frozen 1
              have f2 := ((K8.out)).frozen 2
              have f3 := ((K8.out)).frozen 3
              have f4 := ((K8.out)).frozen 4
              have f5 := ((K8.out)).frozen 5
              simp only [List.getElem?_toArray, List.getElem?_cons_zero, List.getElem?_cons_succ] at d0 d1 d2 d3 d4 d5
              clear f0 f1 f2 f3 f4 f5
              have e0 := K6.out.cell 0
              have e1 := K6.out.cell 1
              have e2 := K6.out.cell 2
              have e3 := K6.out.cell 3
              have e4 := K6.out.cell 4
              have e5 := K6.out.cell 5
              have f0 := K6.out.frozen 0
              have f1 := K6.out.frozen 1
              have f2 := K6.out.frozen 2
              have f3 := K6.out.frozen 3
              have f4 := K6.out.frozen 4
              have f5 := K6.out.frozen 5
              simp only [List.getElem?_toArray, List.getElem?_cons_zero, List.getElem?_cons_succ] at e0 e1 e2 e3 e4 e5
              go_wp2_with fail
              have hQ5 := K6.out.set6 (.string { data := #[] }) (.string { data := inn.toArray }) (.int .i64 1) (.string { data := #[] }) (.string { data := #[] }) (.bool false)
              have hB5 := But.set6R g6 x (.string { data := #[] }) (.string { data := inn.toArray }) (.int .i64 1) (.string { data := #[] }) (.string { data := #[] }) (.bool false)
              have t0 := hQ5.cell 0
              have t1 := hQ5.cell 1
              have t2 := hQ5.cell 2
              have t3 := hQ5.cell 3
              have t4 := hQ5.cell 4
              have t5 := hQ5.cell 5
              simp only [List.getElem?_toArray, List.getElem?_cons_zero, List.getElem?_cons_succ] at t0 t1 t2 t3 t4 t5
              have HBF := Lib.hid (HB.out.trans (hB5.below (by rw [HG6.out]; exact Nat.le_refl _) HB.out.size))
              generalize (((((x.setCell ⟨g6, 0, none⟩ (.string { data := #[] })).setCell ⟨g6, 1, none⟩ (.string { data := inn.toArray })).setCell ⟨g6, 2, none⟩ (.int .i64 1)).setCell ⟨g6, 3, none⟩ (.string { data := #[] })).setCell ⟨g6, 4, none⟩ (.string { data := #[] })).setCell ⟨g6, 5, none⟩ (.bool false) = wf at *
              refine bodyPost_ret (v := .tuple #[.agg #[(.string { data := #[] }), (.string { data := inn.toArray }), (.int .i64 1), (.string { data := #[] }), (.string { data := #[] }), (.bool false)], .bool true]) (by simp [results, Tryd.results23, go_sem, t0, t1, t2, t3, t4, t5]) rfl ⟨by rw [HO.out]; rfl, HBF.out⟩
            | true =>
              rw [hq] at hpb'
              simp only [if_true] at hpb'
              subst hpb'
              have hla := parse_lt a
              have hlb := parse_lt b
              replace HO := Lib.hid (show doO name inn [a, b] = some ⟨Lib.decDigits (((parseL a).1 + (parseL b).1) % 1000000000) ++ [10], inn, 0, [], [], false⟩ by rw [HO.out]; unfold addA; simp only [numA, hp, hq]; rfl)
              generalize (parseL a).1 = na at *
              generalize (parseL b).1 = nb at *
              clear hp hq
              have hxy : (na : Int) + (nb : Int) = ((na + nb : Nat) : Int) := by omega
              have HMD := Lib.hid (show ((na : Int) + (nb : Int)).tmod 1000000000 = (((na + nb) % 1000000000 : Nat) : Int) by rw [hxy]; rfl)
              have HNU := Lib.hid (fun W => refnum_any ((na + nb) % 1000000000) (by omega) W)
              have hsz : (Lib.decDigits ((na + nb) % 1000000000)).length ≤ 9 := dec_len 8 _ (Nat.mod_lt _ (by decide))
              have HA := Lib.hid (show ∀ u : List UInt8, (⟨u.toArray⟩ ++ ⟨#[10]⟩ : ByteArray) = ⟨(u ++ [10]).toArray⟩ from fun u => by apply ByteArray.ext; simp)
              obtain ⟨dg, hd⟩ : ∃ d, d = Lib.decDigits ((na + nb) % 1000000000) := ⟨_, rfl⟩
              rw [← hd] at HNU hsz HO
              have hsz2 : (⟨dg.toArray⟩ : ByteArray).size ≤ 9 := by show dg.toArray.size ≤ 9; rw [List.size_toArray]; exact hsz
              obtain ⟨z, hz⟩ : ∃ z, z = (na + nb) % 1000000000 := ⟨_, rfl⟩
              rw [← hz] at HNU HMD
              have hmod := HMD.out
              clear hd hz HMD hxy
              go_wp2_with fail
              refine (HNU.out _).mono ?_
              rintro e x3 ⟨rfl, hb3⟩
              replace K8 := Lib.hid (K8.out.below hb3)
              replace K6 := Lib.hid (K6.out.below hb3)
              replace HB := Lib.hid (HB.out.trans (hb3.mono HB.out.size))
              clear hb3 hmod
              generalize x3 = x at *
              have d0 := ((K8.out)).cell 0
              have d1 := ((K8.out)).cell 1
              have d2 := ((K8.out)).cell 2
              have d3 := ((K8.out)).cell 3
              have d4 := ((K8.out)).cell 4
              have d5 := ((K8.out)).cell 5
              have f0 := ((K8.out)).frozen 0
              have f1 := ((K8.out)).frozen 1
              have f2 := ((K8.out)).frozen 2
              have f3 := ((K8.out)).frozen 3
              have f4 := ((K8.out)).frozen 4
              have f5 := ((K8.out)).frozen 5
              simp only [List.getElem?_toArray, List.getElem?_cons_zero, List.getElem?_cons_succ] at d0 d1 d2 d3 d4 d5
              go_upto_region 52 with (fail)
              rw [HA.out]
              have q8 := K8.out.set 0 (.string ⟨(dg ++ [10]).toArray⟩)
              simp only [List.setIfInBounds_toArray, List.set_cons_zero, List.set_cons_succ] at q8
              have q6 := (But.set (B := g8) x 0 (.string ⟨(dg ++ [10]).toArray⟩)).blk K6.out HNE.out
              have qb := HB.out.trans ((But.set (B := g8) x 0 (.string ⟨(dg ++ [10]).toArray⟩)).below HG8.out HB.out.size)
              replace K8 := Lib.hid q8
              replace K6 := Lib.hid q6
              replace HB := Lib.hid qb
              clear q8 q6 qb
              try clear d0 d1 d2 d3 d4 d5 f0 f1 f2 f3 f4 f5
              generalize x.setCell ⟨g8, 0, none⟩ (.string ⟨(dg ++ [10]).toArray⟩) = x at *
              have d0 := ((K8.out)).cell 0
              have d1 := ((K8.out)).cell 1
              have d2 := ((K8.out)).cell 2
              have d3 := ((K8.out)).cell 3
              have d4 := ((K8.out)).cell 4
              have d5 := ((K8.out)).cell 5
              have f0 := ((K8.out)).frozen 0
              have f1 := ((K8.out)).frozen 1
              have f2 := ((K8.out)).frozen 2
              have f3 := ((K8.out)).frozen 3
              have f4 := ((K8.out)).frozen 4
              have f5 := ((K8.out)).frozen 5
              simp only [List.getElem?_toArray, List.getElem?_cons_zero, List.getElem?_cons_succ] at d0 d1 d2 d3 d4 d5
              clear f0 f1 f2 f3 f4 f5
              have e0 := K6.out.cell 0
              have e1 := K6.out.cell 1
              have e2 := K6.out.cell 2
              have e3 := K6.out.cell 3
              have e4 := K6.out.cell 4
              have e5 := K6.out.cell 5
              have f0 := K6.out.frozen 0
              have f1 := K6.out.frozen 1
              have f2 := K6.out.frozen 2
              have f3 := K6.out.frozen 3
              have f4 := K6.out.frozen 4
              have f5 := K6.out.frozen 5
              simp only [List.getElem?_toArray, List.getElem?_cons_zero, List.getElem?_cons_succ] at e0 e1 e2 e3 e4 e5
              go_wp2_with fail
              have hQ5 := K6.out.set6 (.string ⟨(dg ++ [10]).toArray⟩) (.string { data := inn.toArray }) (.int .i64 0) (.string { data := #[] }) (.string { data := #[] }) (.bool false)
              have hB5 := But.set6R g6 x (.string ⟨(dg ++ [10]).toArray⟩) (.string { data := inn.toArray }) (.int .i64 0) (.string { data := #[] }) (.string { data := #[] }) (.bool false)
              have t0 := hQ5.cell 0
              have t1 := hQ5.cell 1
              have t2 := hQ5.cell 2
              have t3 := hQ5.cell 3
              have t4 := hQ5.cell 4
              have t5 := hQ5.cell 5
              simp only [List.getElem?_toArray, List.getElem?_cons_zero, List.getElem?_cons_succ] at t0 t1 t2 t3 t4 t5
              have HBF := Lib.hid (HB.out.trans (hB5.below (by rw [HG6.out]; exact Nat.le_refl _) HB.out.size))
              generalize (((((x.setCell ⟨g6, 0, none⟩ (.string ⟨(dg ++ [10]).toArray⟩)).setCell ⟨g6, 1, none⟩ (.string { data := inn.toArray })).setCell ⟨g6, 2, none⟩ (.int .i64 0)).setCell ⟨g6, 3, none⟩ (.string { data := #[] })).setCell ⟨g6, 4, none⟩ (.string { data := #[] })).setCell ⟨g6, 5, none⟩ (.bool false) = wf at *
              refine bodyPost_ret (v := .tuple #[.agg #[(.string ⟨(dg ++ [10]).toArray⟩), (.string { data := inn.toArray }), (.int .i64 0), (.string { data := #[] }), (.string { data := #[] }), (.bool false)], .bool true]) (by simp [results, Tryd.results23, go_sem, t0, t1, t2, t3, t4, t5]) rfl ⟨by rw [HO.out]; rfl, HBF.out⟩
        by_cases h9 : name = [114, 101, 97, 100]
        · have n0 : (nm.toList == [101, 99, 104, 111]) = false := (HNM.out [101, 99, 104, 111]).trans (decide_eq_false h0)
          have n1 : (nm.toList == [112, 117, 116]) = false := (HNM.out [112, 117, 116]).trans (decide_eq_false h1)
          have n2 : (nm.toList == [99, 97, 116]) = false := (HNM.out [99, 97, 116]).trans (decide_eq_false h2)
          have n3 : (nm.toList == [116, 114, 117, 101]) = false := (HNM.out [116, 114, 117, 101]).trans (decide_eq_false h3)
          have n4 : (nm.toList == [102, 97, 108, 115, 101]) = false := (HNM.out [102, 97, 108, 115, 101]).trans (decide_eq_false h4)
          have n5 : (nm.toList == [101, 113]) = false := (HNM.out [101, 113]).trans (decide_eq_false h5)
          have n6 : (nm.toList == [108, 105, 107, 101]) = false := (HNM.out [108, 105, 107, 101]).trans (decide_eq_false h6)
          have n7 : (nm.toList == [108, 101, 115, 115]) = false := (HNM.out [108, 101, 115, 115]).trans (decide_eq_false h7)
          have n8 : (nm.toList == [97, 100, 100]) = false := (HNM.out [97, 100, 100]).trans (decide_eq_false h8)
          have n9 : (nm.toList == [114, 101, 97, 100]) = true := (HNM.out [114, 101, 97, 100]).trans (decide_eq_true h9)
          have HO := Lib.hid (show doO name inn [a, b] = some (readA inn [a, b] (oc0 inn)) by rw [h9]; rfl)
          clear h0 h1 h2 h3 h4 h5 h6 h7 h8 h9
          replace HO := Lib.hid (show doO name inn [a, b] = some ⟨[], inn, 1, [], [], false⟩ by rw [HO.out]; rfl)
          have d0 := ((K8.out)).cell 0
          have d1 := ((K8.out)).cell 1
          have d2 := ((K8.out)).cell 2
          have d3 := ((K8.out)).cell 3
          have d4 := ((K8.out)).cell 4
          have d5 := ((K8.out)).cell 5
          have f0 := ((K8.out)).frozen 0
          have f1 := ((K8.out)).frozen 1
          have f2 := ((K8.out)).frozen 2
          have f3 := ((K8.out)).frozen 3
          have f4 := ((K8.out)).frozen 4
          have f5 := ((K8.out)).frozen 5
          simp only [List.getElem?_toArray, List.getElem?_cons_zero, List.getElem?_cons_succ] at d0 d1 d2 d3 d4 d5
          go_upto_region 54 with (fail)
          have q8 := K8.out.set 2 (.int .i64 1)
          simp only [List.setIfInBounds_toArray, List.set_cons_zero, List.set_cons_succ] at q8
          have q6 := (But.set (B := g8) x 2 (.int .i64 1)).blk K6.out HNE.out
          have qb := HB.out.trans ((But.set (B := g8) x 2 (.int .i64 1)).below HG8.out HB.out.size)
          replace K8 := Lib.hid q8
          replace K6 := Lib.hid q6
          replace HB := Lib.hid qb
          clear q8 q6 qb
          try clear d0 d1 d2 d3 d4 d5 f0 f1 f2 f3 f4 f5
          generalize x.setCell ⟨g8, 2, none⟩ (.int .i64 1) = x at *
          have d0 := ((K8.out)).cell 0
          have d1 := ((K8.out)).cell 1
          have d2 := ((K8.out)).cell 2
          have d3 := ((K8.out)).cell 3
          have d4 := ((K8.out)).cell 4
          have d5 := ((K8.out)).cell 5
          have f0 := ((K8.out)).frozen 0
          have f1 := ((K8.out)).frozen 1
          have f2 := ((K8.out)).frozen 2
          have f3 := ((K8.out)).frozen 3
          have f4 := ((K8.out)).frozen 4
          have f5 := ((K8.out)).frozen 5
          simp only [List.getElem?_toArray, List.getElem?_cons_zero, List.getElem?_cons_succ] at d0 d1 d2 d3 d4 d5
          clear f0 f1 f2 f3 f4 f5
          have e0 := K6.out.cell 0
          have e1 := K6.out.cell 1
          have e2 := K6.out.cell 2
          have e3 := K6.out.cell 3
          have e4 := K6.out.cell 4
          have e5 := K6.out.cell 5
          have f0 := K6.out.frozen 0
          have f1 := K6.out.frozen 1
          have f2 := K6.out.frozen 2
          have f3 := K6.out.frozen 3
          have f4 := K6.out.frozen 4
          have f5 := K6.out.frozen 5
          simp only [List.getElem?_toArray, List.getElem?_cons_zero, List.getElem?_cons_succ] at e0 e1 e2 e3 e4 e5
          go_wp2_with fail
          have hQ5 := K6.out.set6 (.string { data := #[] }) (.string { data := inn.toArray }) (.int .i64 1) (.string { data := #[] }) (.string { data := #[] }) (.bool false)
          have hB5 := But.set6R g6 x (.string { data := #[] }) (.string { data := inn.toArray }) (.int .i64 1) (.string { data := #[] }) (.string { data := #[] }) (.bool false)
          have t0 := hQ5.cell 0
          have t1 := hQ5.cell 1
          have t2 := hQ5.cell 2
          have t3 := hQ5.cell 3
          have t4 := hQ5.cell 4
          have t5 := hQ5.cell 5
          simp only [List.getElem?_toArray, List.getElem?_cons_zero, List.getElem?_cons_succ] at t0 t1 t2 t3 t4 t5
          have HBF := Lib.hid (HB.out.trans (hB5.below (by rw [HG6.out]; exact Nat.le_refl _) HB.out.size))
          generalize (((((x.setCell ⟨g6, 0, none⟩ (.string { data := #[] })).setCell ⟨g6, 1, none⟩ (.string { data := inn.toArray })).setCell ⟨g6, 2, none⟩ (.int .i64 1)).setCell ⟨g6, 3, none⟩ (.string { data := #[] })).setCell ⟨g6, 4, none⟩ (.string { data := #[] })).setCell ⟨g6, 5, none⟩ (.bool false) = wf at *
          refine bodyPost_ret (v := .tuple #[.agg #[(.string { data := #[] }), (.string { data := inn.toArray }), (.int .i64 1), (.string { data := #[] }), (.string { data := #[] }), (.bool false)], .bool true]) (by simp [results, Tryd.results23, go_sem, t0, t1, t2, t3, t4, t5]) rfl ⟨by rw [HO.out]; rfl, HBF.out⟩
        by_cases h10 : name = [101, 120, 105, 116]
        · have n0 : (nm.toList == [101, 99, 104, 111]) = false := (HNM.out [101, 99, 104, 111]).trans (decide_eq_false h0)
          have n1 : (nm.toList == [112, 117, 116]) = false := (HNM.out [112, 117, 116]).trans (decide_eq_false h1)
          have n2 : (nm.toList == [99, 97, 116]) = false := (HNM.out [99, 97, 116]).trans (decide_eq_false h2)
          have n3 : (nm.toList == [116, 114, 117, 101]) = false := (HNM.out [116, 114, 117, 101]).trans (decide_eq_false h3)
          have n4 : (nm.toList == [102, 97, 108, 115, 101]) = false := (HNM.out [102, 97, 108, 115, 101]).trans (decide_eq_false h4)
          have n5 : (nm.toList == [101, 113]) = false := (HNM.out [101, 113]).trans (decide_eq_false h5)
          have n6 : (nm.toList == [108, 105, 107, 101]) = false := (HNM.out [108, 105, 107, 101]).trans (decide_eq_false h6)
          have n7 : (nm.toList == [108, 101, 115, 115]) = false := (HNM.out [108, 101, 115, 115]).trans (decide_eq_false h7)
          have n8 : (nm.toList == [97, 100, 100]) = false := (HNM.out [97, 100, 100]).trans (decide_eq_false h8)
          have n9 : (nm.toList == [114, 101, 97, 100]) = false := (HNM.out [114, 101, 97, 100]).trans (decide_eq_false h9)
          have n10 : (nm.toList == [101, 120, 105, 116]) = true := (HNM.out [101, 120, 105, 116]).trans (decide_eq_true h10)
          have HO := Lib.hid (show doO name inn [a, b] = some (exitA [a, b] (oc0 inn)) by rw [h10]; rfl)
          clear h0 h1 h2 h3 h4 h5 h6 h7 h8 h9 h10
          have d0 := ((K8.out)).cell 0
          have d1 := ((K8.out)).cell 1
          have d2 := ((K8.out)).cell 2
          have d3 := ((K8.out)).cell 3
          have d4 := ((K8.out)).cell 4
          have d5 := ((K8.out)).cell 5
          have f0 := ((K8.out)).frozen 0
          have f1 := ((K8.out)).frozen 1
          have f2 := ((K8.out)).frozen 2
          have f3 := ((K8.out)).frozen 3
          have f4 := ((K8.out)).frozen 4
          have f5 := ((K8.out)).frozen 5
          simp only [List.getElem?_toArray, List.getElem?_cons_zero, List.getElem?_cons_succ] at d0 d1 d2 d3 d4 d5
          go_upto_region 48 with (fail)
          have q8 := K8.out.set 5 (.bool true)
          simp only [List.setIfInBounds_toArray, List.set_cons_zero, List.set_cons_succ] at q8
          have q6 := (But.set (B := g8) x 5 (.bool true)).blk K6.out HNE.out
          have qb := HB.out.trans ((But.set (B := g8) x 5 (.bool true)).below HG8.out HB.out.size)
          replace K8 := Lib.hid q8
          replace K6 := Lib.hid q6
          replace HB := Lib.hid qb
          clear q8 q6 qb
          try clear d0 d1 d2 d3 d4 d5 f0 f1 f2 f3 f4 f5
          generalize x.setCell ⟨g8, 5, none⟩ (.bool true) = x at *
          replace e0 := (HE.out _ HB.out).1
          clear e1
          go_wp2_with fail
          refine (HPA.out _).mono ?_
          rintro e x2 ⟨rfl, hx2⟩
          obtain rfl : x = x2 := hx2.symm
          cases hp : (parseL a).2 with
          | false =>
            have hpa' := HPAE.out
            unfold parR at hpa'
            rw [hp] at hpa'
            simp only [Bool.false_eq_true, if_false] at hpa'
            replace HO := Lib.hid (show doO name inn [a, b] = some ⟨[], inn, 0, [], [], true⟩ by rw [HO.out]; simp only [exitA, hp]; rfl)
            clear hp
            subst hpa'
            go_upto_region 52 with (fail)
            have d0 := ((K8.out)).cell 0
            have d1 := ((K8.out)).cell 1
            have d2 := ((K8.out)).cell 2
            have d3 := ((K8.out)).cell 3
            have d4 := ((K8.out)).cell 4
            have d5 := ((K8.out)).cell 5
            have f0 := ((K8.out)).frozen 0
            have f1 := ((K8.out)).frozen 1
            have f2 := ((K8.out)).frozen 2
            have f3 := ((K8.out)).frozen 3
            have f4 := ((K8.out)).frozen 4
            have f5 := ((K8.out)).frozen 5
            simp only [List.getElem?_toArray, List.getElem?_cons_zero, List.getElem?_cons_succ] at d0 d1 d2 d3 d4 d5
            clear f0 f1 f2 f3 f4 f5
            have e0 := K6.out.cell 0
            have e1 := K6.out.cell 1
            have e2 := K6.out.cell 2
            have e3 := K6.out.cell 3
            have e4 := K6.out.cell 4
            have e5 := K6.out.cell 5
            have f0 := K6.out.frozen 0
            have f1 := K6.out.frozen 1
            have f2 := K6.out.frozen 2
            have f3 := K6.out.frozen 3
            have f4 := K6.out.frozen 4
            have f5 := K6.out.frozen 5
            simp only [List.getElem?_toArray, List.getElem?_cons_zero, List.getElem?_cons_succ] at e0 e1 e2 e3 e4 e5
            go_wp2_with fail
            have hQ5 := K6.out.set6 (.string { data := #[] }) (.string { data := inn.toArray }) (.int .i64 0) (.string { data := #[] }) (.string { data := #[] }) (.bool true)
            have hB5 := But.set6R g6 x (.string { data := #[] }) (.string { data := inn.toArray }) (.int .i64 0) (.string { data := #[] }) (.string { data := #[] }) (.bool true)
            have t0 := hQ5.cell 0
            have t1 := hQ5.cell 1
            have t2 := hQ5.cell 2
            have t3 := hQ5.cell 3
            have t4 := hQ5.cell 4
            have t5 := hQ5.cell 5
            simp only [List.getElem?_toArray, List.getElem?_cons_zero, List.getElem?_cons_succ] at t0 t1 t2 t3 t4 t5
            have HBF := Lib.hid (HB.out.trans (hB5.below (by rw [HG6.out]; exact Nat.le_refl _) HB.out.size))
            generalize (((((x.setCell ⟨g6, 0, none⟩ (.string { data := #[] })).setCell ⟨g6, 1, none⟩ (.string { data := inn.toArray })).setCell ⟨g6, 2, none⟩ (.int .i64 0)).setCell ⟨g6, 3, none⟩ (.string { data := #[] })).setCell ⟨g6, 4, none⟩ (.string { data := #[] })).setCell ⟨g6, 5, none⟩ (.bool true) = wf at *
            refine bodyPost_ret (v := .tuple #[.agg #[(.string { data := #[] }), (.string { data := inn.toArray }), (.int .i64 0), (.string { data := #[] }), (.string { data := #[] }), (.bool true)], .bool true]) (by simp [results, Tryd.results23, go_sem, t0, t1, t2, t3, t4, t5]) rfl ⟨by rw [HO.out]; rfl, HBF.out⟩
          | true =>
            have hpa' := HPAE.out
            unfold parR at hpa'
            rw [hp] at hpa'
            simp only [if_true] at hpa'
            by_cases h255 : (parseL a).1 ≤ 255
            · replace HO := Lib.hid (show doO name inn [a, b] = some ⟨[], inn, ((parseL a).1 : Int), [], [], true⟩ by rw [HO.out]; simp only [exitA, hp, decide_eq_true h255]; rfl)
              clear hp
              subst hpa'
              generalize (parseL a).1 = na at *
              have h255' : (na : Int) ≤ 255 := by omega
              have d0 := ((K8.out)).cell 0
              have d1 := ((K8.out)).cell 1
              have d2 := ((K8.out)).cell 2
              have d3 := ((K8.out)).cell 3
              have d4 := ((K8.out)).cell 4
              have d5 := ((K8.out)).cell 5
              have f0 := ((K8.out)).frozen 0
              have f1 := ((K8.out)).frozen 1
              have f2 := ((K8.out)).frozen 2
              have f3 := ((K8.out)).frozen 3
              have f4 := ((K8.out)).frozen 4
              have f5 := ((K8.out)).frozen 5
              simp only [List.getElem?_toArray, List.getElem?_cons_zero, List.getElem?_cons_succ] at d0 d1 d2 d3 d4 d5
              go_upto_region 52 with (fail)
              have q8 := K8.out.set 2 (.int .i64 (na : Int))
              simp only [List.setIfInBounds_toArray, List.set_cons_zero, List.set_cons_succ] at q8
              have q6 := (But.set (B := g8) x 2 (.int .i64 (na : Int))).blk K6.out HNE.out
              have qb := HB.out.trans ((But.set (B := g8) x 2 (.int .i64 (na : Int))).below HG8.out HB.out.size)
              replace K8 := Lib.hid q8
              replace K6 := Lib.hid q6
              replace HB := Lib.hid qb
              clear q8 q6 qb
              try clear d0 d1 d2 d3 d4 d5 f0 f1 f2 f3 f4 f5
              generalize x.setCell ⟨g8, 2, none⟩ (.int .i64 (na : Int)) = x at *
              have d0 := ((K8.out)).cell 0
              have d1 := ((K8.out)).cell 1
              have d2 := ((K8.out)).cell 2
              have d3 := ((K8.out)).cell 3
              have d4 := ((K8.out)).cell 4
              have d5 := ((K8.out)).cell 5
              have f0 := ((K8.out)).frozen 0
              have f1 := ((K8.out)).frozen 1
              have f2 := ((K8.out)).frozen 2
              have f3 := ((K8.out)).frozen 3
              have f4 := ((K8.out)).frozen 4
              have f5 := ((K8.out)).frozen 5
              simp only [List.getElem?_toArray, List.getElem?_cons_zero, List.getElem?_cons_succ] at d0 d1 d2 d3 d4 d5
              clear f0 f1 f2 f3 f4 f5
              have e0 := K6.out.cell 0
              have e1 := K6.out.cell 1
              have e2 := K6.out.cell 2
              have e3 := K6.out.cell 3
              have e4 := K6.out.cell 4
              have e5 := K6.out.cell 5
              have f0 := K6.out.frozen 0
              have f1 := K6.out.frozen 1
              have f2 := K6.out.frozen 2
              have f3 := K6.out.frozen 3
              have f4 := K6.out.frozen 4
              have f5 := K6.out.frozen 5
              simp only [List.getElem?_toArray, List.getElem?_cons_zero, List.getElem?_cons_succ] at e0 e1 e2 e3 e4 e5
              go_wp2_with fail
              have hQ5 := K6.out.set6 (.string { data := #[] }) (.string { data := inn.toArray }) (.int .i64 (na : Int)) (.string { data := #[] }) (.string { data := #[] }) (.bool true)
              have hB5 := But.set6R g6 x (.string { data := #[] }) (.string { data := inn.toArray }) (.int .i64 (na : Int)) (.string { data := #[] }) (.string { data := #[] }) (.bool true)
              have t0 := hQ5.cell 0
              have t1 := hQ5.cell 1
              have t2 := hQ5.cell 2
              have t3 := hQ5.cell 3
              have t4 := hQ5.cell 4
              have t5 := hQ5.cell 5
              simp only [List.getElem?_toArray, List.getElem?_cons_zero, List.getElem?_cons_succ] at t0 t1 t2 t3 t4 t5
              have HBF := Lib.hid (HB.out.trans (hB5.below (by rw [HG6.out]; exact Nat.le_refl _) HB.out.size))
              generalize (((((x.setCell ⟨g6, 0, none⟩ (.string { data := #[] })).setCell ⟨g6, 1, none⟩ (.string { data := inn.toArray })).setCell ⟨g6, 2, none⟩ (.int .i64 (na : Int))).setCell ⟨g6, 3, none⟩ (.string { data := #[] })).setCell ⟨g6, 4, none⟩ (.string { data := #[] })).setCell ⟨g6, 5, none⟩ (.bool true) = wf at *
              refine bodyPost_ret (v := .tuple #[.agg #[(.string { data := #[] }), (.string { data := inn.toArray }), (.int .i64 (na : Int)), (.string { data := #[] }), (.string { data := #[] }), (.bool true)], .bool true]) (by simp [results, Tryd.results23, go_sem, t0, t1, t2, t3, t4, t5]) rfl ⟨by rw [HO.out]; rfl, HBF.out⟩
            · replace HO := Lib.hid (show doO name inn [a, b] = some ⟨[], inn, 0, [], [], true⟩ by rw [HO.out]; simp only [exitA, hp, decide_eq_false h255]; rfl)
              clear hp
              subst hpa'
              generalize (parseL a).1 = na at *
              have h255' : ¬ (na : Int) ≤ 255 := by omega
              go_upto_region 52 with (fail)
              have d0 := ((K8.out)).cell 0
              have d1 := ((K8.out)).cell 1
              have d2 := ((K8.out)).cell 2
              have d3 := ((K8.out)).cell 3
              have d4 := ((K8.out)).cell 4
              have d5 := ((K8.out)).cell 5
              have f0 := ((K8.out)).frozen 0
              have f1 := ((K8.out)).frozen 1
              have f2 := ((K8.out)).frozen 2
              have f3 := ((K8.out)).frozen 3
              have f4 := ((K8.out)).frozen 4
              have f5 := ((K8.out)).frozen 5
              simp only [List.getElem?_toArray, List.getElem?_cons_zero, List.getElem?_cons_succ] at d0 d1 d2 d3 d4 d5
              clear f0 f1 f2 f3 f4 f5
              have e0 := K6.out.cell 0
              have e1 := K6.out.cell 1
              have e2 := K6.out.cell 2
              have e3 := K6.out.cell 3
              have e4 := K6.out.cell 4
              have e5 := K6.out.cell 5
              have f0 := K6.out.frozen 0
              have f1 := K6.out.frozen 1
              have f2 := K6.out.frozen 2
              have f3 := K6.out.frozen 3
              have f4 := K6.out.frozen 4
              have f5 := K6.out.frozen 5
              simp only [List.getElem?_toArray, List.getElem?_cons_zero, List.getElem?_cons_succ] at e0 e1 e2 e3 e4 e5
              go_wp2_with fail
              have hQ5 := K6.out.set6 (.string { data := #[] }) (.string { data := inn.toArray }) (.int .i64 0) (.string { data := #[] }) (.string { data := #[] }) (.bool true)
              have hB5 := But.set6R g6 x (.string { data := #[] }) (.string { data := inn.toArray }) (.int .i64 0) (.string { data := #[] }) (.string { data := #[] }) (.bool true)
              have t0 := hQ5.cell 0
              have t1 := hQ5.cell 1
              have t2 := hQ5.cell 2
              have t3 := hQ5.cell 3
              have t4 := hQ5.cell 4
              have t5 := hQ5.cell 5
              simp only [List.getElem?_toArray, List.getElem?_cons_zero, List.getElem?_cons_succ] at t0 t1 t2 t3 t4 t5
              have HBF := Lib.hid (HB.out.trans (hB5.below (by rw [HG6.out]; exact Nat.le_refl _) HB.out.size))
              generalize (((((x.setCell ⟨g6, 0, none⟩ (.string { data := #[] })).setCell ⟨g6, 1, none⟩ (.string { data := inn.toArray })).setCell ⟨g6, 2, none⟩ (.int .i64 0)).setCell ⟨g6, 3, none⟩ (.string { data := #[] })).setCell ⟨g6, 4, none⟩ (.string { data := #[] })).setCell ⟨g6, 5, none⟩ (.bool true) = wf at *
              refine bodyPost_ret (v := .tuple #[.agg #[(.string { data := #[] }), (.string { data := inn.toArray }), (.int .i64 0), (.string { data := #[] }), (.string { data := #[] }), (.bool true)], .bool true]) (by simp [results, Tryd.results23, go_sem, t0, t1, t2, t3, t4, t5]) rfl ⟨by rw [HO.out]; rfl, HBF.out⟩
        have n0 : (nm.toList == [101, 99, 104, 111]) = false := (HNM.out [101, 99, 104, 111]).trans (decide_eq_false h0)
        have n1 : (nm.toList == [112, 117, 116]) = false := (HNM.out [112, 117, 116]).trans (decide_eq_false h1)
        have n2 : (nm.toList == [99, 97, 116]) = false := (HNM.out [99, 97, 116]).trans (decide_eq_false h2)
        have n3 : (nm.toList == [116, 114, 117, 101]) = false := (HNM.out [116, 114, 117, 101]).trans (decide_eq_false h3)
        have n4 : (nm.toList == [102, 97, 108, 115, 101]) = false := (HNM.out [102, 97, 108, 115, 101]).trans (decide_eq_false h4)
        have n5 : (nm.toList == [101, 113]) = false := (HNM.out [101, 113]).trans (decide_eq_false h5)
        have n6 : (nm.toList == [108, 105, 107, 101]) = false := (HNM.out [108, 105, 107, 101]).trans (decide_eq_false h6)
        have n7 : (nm.toList == [108, 101, 115, 115]) = false := (HNM.out [108, 101, 115, 115]).trans (decide_eq_false h7)
        have n8 : (nm.toList == [97, 100, 100]) = false := (HNM.out [97, 100, 100]).trans (decide_eq_false h8)
        have n9 : (nm.toList == [114, 101, 97, 100]) = false := (HNM.out [114, 101, 97, 100]).trans (decide_eq_false h9)
        have n10 : (nm.toList == [101, 120, 105, 116]) = false := (HNM.out [101, 120, 105, 116]).trans (decide_eq_false h10)
        have HO := Lib.hid (show doO name inn [a, b] = none by
          unfold doO
          rw [if_neg h8, if_neg h2, if_neg h0, if_neg h5, if_neg h10, if_neg h4, if_neg h7, if_neg h6, if_neg h1, if_neg h9, if_neg h3])
        clear h0 h1 h2 h3 h4 h5 h6 h7 h8 h9 h10
        have e0 := K6.out.cell 0
        have e1 := K6.out.cell 1
        have e2 := K6.out.cell 2
        have e3 := K6.out.cell 3
        have e4 := K6.out.cell 4
        have e5 := K6.out.cell 5
        have f0 := K6.out.frozen 0
        have f1 := K6.out.frozen 1
        have f2 := K6.out.frozen 2
        have f3 := K6.out.frozen 3
        have f4 := K6.out.frozen 4
        have f5 := K6.out.frozen 5
        simp only [List.getElem?_toArray, List.getElem?_cons_zero, List.getElem?_cons_succ] at e0 e1 e2 e3 e4 e5
        go_wp2_with fail
        have hQ5 := K6.out.set6 (.string { data := #[] }) (.string { data := #[] }) (.int .i64 0) (.string { data := #[] }) (.string { data := #[] }) (.bool false)
        have hB5 := But.set6R g6 x (.string { data := #[] }) (.string { data := #[] }) (.int .i64 0) (.string { data := #[] }) (.string { data := #[] }) (.bool false)
        have t0 := hQ5.cell 0
        have t1 := hQ5.cell 1
        have t2 := hQ5.cell 2
        have t3 := hQ5.cell 3
        have t4 := hQ5.cell 4
        have t5 := hQ5.cell 5
        simp only [List.getElem?_toArray, List.getElem?_cons_zero, List.getElem?_cons_succ] at t0 t1 t2 t3 t4 t5
        have HBF := Lib.hid (HB.out.trans (hB5.below (by rw [HG6.out]; exact Nat.le_refl _) HB.out.size))
        generalize (((((x.setCell ⟨g6, 0, none⟩ (.string { data := #[] })).setCell ⟨g6, 1, none⟩ (.string { data := #[] })).setCell ⟨g6, 2, none⟩ (.int .i64 0)).setCell ⟨g6, 3, none⟩ (.string { data := #[] })).setCell ⟨g6, 4, none⟩ (.string { data := #[] })).setCell ⟨g6, 5, none⟩ (.bool false) = wf at *
        refine bodyPost_ret (v := .tuple #[.agg #[(.string { data := #[] }), (.string { data := #[] }), (.int .i64 0), (.string { data := #[] }), (.string { data := #[] }), (.bool false)], .bool false]) (by simp [results, Tryd.results23, go_sem, t0, t1, t2, t3, t4, t5]) rfl ⟨by rw [HO.out]; rfl, HBF.out⟩
      · have h2' : ((k : Int) == 2) = false := by rw [beq_eq_false_iff_ne]; omega
        have h2L : L.length ≠ 2 := by rw [← HM.out]; exact h2
        by_cases h0 : name = [101, 99, 104, 111]
        · have n0 : (nm.toList == [101, 99, 104, 111]) = true := (HNM.out [101, 99, 104, 111]).trans (decide_eq_true h0)
          have HO := Lib.hid (show doO name inn L = some ({ oc0 inn with out := spaced L ++ [10] }) by rw [h0]; rfl)
          clear h0
          rw [← HTX.out] at HO
          have HA := Lib.hid (show (⟨tx.toArray⟩ ++ ⟨#[10]⟩ : ByteArray) = ⟨(tx ++ [10]).toArray⟩ by apply ByteArray.ext; simp)
          have d0 := ((K8.out)).cell 0
          have d1 := ((K8.out)).cell 1
          have d2 := ((K8.out)).cell 2
          have d3 := ((K8.out)).cell 3
          have d4 := ((K8.out)).cell 4
          have d5 := ((K8.out)).cell 5
          have f0 := ((K8.out)).frozen 0
          have f1 := ((K8.out)).frozen 1
          have f2 := ((K8.out)).frozen 2
          have f3 := ((K8.out)).frozen 3
          have f4 := ((K8.out)).frozen 4
          have f5 := ((K8.out)).frozen 5
          simp only [List.getElem?_toArray, List.getElem?_cons_zero, List.getElem?_cons_succ] at d0 d1 d2 d3 d4 d5
          go_upto_region 52 with (fail)
          rw [HA.out]
          have q8 := K8.out.set 0 (.string ⟨(tx ++ [10]).toArray⟩)
          simp only [List.setIfInBounds_toArray, List.set_cons_zero, List.set_cons_succ] at q8
          have q6 := (But.set (B := g8) x 0 (.string ⟨(tx ++ [10]).toArray⟩)).blk K6.out HNE.out
          have qb := HB.out.trans ((But.set (B := g8) x 0 (.string ⟨(tx ++ [10]).toArray⟩)).below HG8.out HB.out.size)
          replace K8 := Lib.hid q8
          replace K6 := Lib.hid q6
          replace HB := Lib.hid qb
          clear q8 q6 qb
          try clear d0 d1 d2 d3 d4 d5 f0 f1 f2 f3 f4 f5
          generalize x.setCell ⟨g8, 0, none⟩ (.string ⟨(tx ++ [10]).toArray⟩) = x at *
          have d0 := ((K8.out)).cell 0
          have d1 := ((K8.out)).cell 1
          have d2 := ((K8.out)).cell 2
          have d3 := ((K8.out)).cell 3
          have d4 := ((K8.out)).cell 4
          have d5 := ((K8.out)).cell 5
          have f0 := ((K8.out)).frozen 0
          have f1 := ((K8.out)).frozen 1
          have f2 := ((K8.out)).frozen 2
          have f3 := ((K8.out)).frozen 3
          have f4 := ((K8.out)).frozen 4
          have f5 := ((K8.out)).frozen 5
          simp only [List.getElem?_toArray, List.getElem?_cons_zero, List.getElem?_cons_succ] at d0 d1 d2 d3 d4 d5
          clear f0 f1 f2 f3 f4 f5
          have e0 := K6.out.cell 0
          have e1 := K6.out.cell 1
          have e2 := K6.out.cell 2
          have e3 := K6.out.cell 3
          have e4 := K6.out.cell 4
          have e5 := K6.out.cell 5
          have f0 := K6.out.frozen 0
          have f1 := K6.out.frozen 1
          have f2 := K6.out.frozen 2
          have f3 := K6.out.frozen 3
          have f4 := K6.out.frozen 4
          have f5 := K6.out.frozen 5
          simp only [List.getElem?_toArray, List.getElem?_cons_zero, List.getElem?_cons_succ] at e0 e1 e2 e3 e4 e5
          go_wp2_with fail
          have hQ5 := K6.out.set6 (.string ⟨(tx ++ [10]).toArray⟩) (.string { data := inn.toArray }) (.int .i64 0) (.string { data := #[] }) (.string { data := #[] }) (.bool false)
          have hB5 := But.set6R g6 x (.string ⟨(tx ++ [10]).toArray⟩) (.string { data := inn.toArray }) (.int .i64 0) (.string { data := #[] }) (.string { data := #[] }) (.bool false)
          have t0 := hQ5.cell 0
          have t1 := hQ5.cell 1
          have t2 := hQ5.cell 2
          have t3 := hQ5.cell 3
          have t4 := hQ5.cell 4
          have t5 := hQ5.cell 5
          simp only [List.getElem?_toArray, List.getElem?_cons_zero, List.getElem?_cons_succ] at t0 t1 t2 t3 t4 t5
          have HBF := Lib.hid (HB.out.trans (hB5.below (by rw [HG6.out]; exact Nat.le_refl _) HB.out.size))
          generalize (((((x.setCell ⟨g6, 0, none⟩ (.string ⟨(tx ++ [10]).toArray⟩)).setCell ⟨g6, 1, none⟩ (.string { data := inn.toArray })).setCell ⟨g6, 2, none⟩ (.int .i64 0)).setCell ⟨g6, 3, none⟩ (.string { data := #[] })).setCell ⟨g6, 4, none⟩ (.string { data := #[] })).setCell ⟨g6, 5, none⟩ (.bool false) = wf at *
          refine bodyPost_ret (v := .tuple #[.agg #[(.string ⟨(tx ++ [10]).toArray⟩), (.string { data := inn.toArray }), (.int .i64 0), (.string { data := #[] }), (.string { data := #[] }), (.bool false)], .bool true]) (by simp [results, Tryd.results23, go_sem, t0, t1, t2, t3, t4, t5]) rfl ⟨by rw [HO.out]; rfl, HBF.out⟩
        by_cases h1 : name = [112, 117, 116]
        · have n0 : (nm.toList == [101, 99, 104, 111]) = false := (HNM.out [101, 99, 104, 111]).trans (decide_eq_false h0)
          have n1 : (nm.toList == [112, 117, 116]) = true := (HNM.out [112, 117, 116]).trans (decide_eq_true h1)
          have HO := Lib.hid (show doO name inn L = some ({ oc0 inn with out := spaced L }) by rw [h1]; rfl)
          clear h0 h1
          rw [← HTX.out] at HO
          have d0 := ((K8.out)).cell 0
          have d1 := ((K8.out)).cell 1
          have d2 := ((K8.out)).cell 2
          have d3 := ((K8.out)).cell 3
          have d4 := ((K8.out)).cell 4
          have d5 := ((K8.out)).cell 5
          have f0 := ((K8.out)).frozen 0
          have f1 := ((K8.out)).frozen 1
          have f2 := ((K8.out)).frozen 2
          have f3 := ((K8.out)).frozen 3
          have f4 := ((K8.out)).frozen 4
          have f5 := ((K8.out)).frozen 5
          simp only [List.getElem?_toArray, List.getElem?_cons_zero, List.getElem?_cons_succ] at d0 d1 d2 d3 d4 d5
          go_upto_region 52 with (fail)
          have q8 := K8.out.set 0 (.string ⟨tx.toArray⟩)
          simp only [List.setIfInBounds_toArray, List.set_cons_zero, List.set_cons_succ] at q8
          have q6 := (But.set (B := g8) x 0 (.string ⟨tx.toArray⟩)).blk K6.out HNE.out
          have qb := HB.out.trans ((But.set (B := g8) x 0 (.string ⟨tx.toArray⟩)).below HG8.out HB.out.size)
          replace K8 := Lib.hid q8
          replace K6 := Lib.hid q6
          replace HB := Lib.hid qb
          clear q8 q6 qb
          try clear d0 d1 d2 d3 d4 d5 f0 f1 f2 f3 f4 f5
          generalize x.setCell ⟨g8, 0, none⟩ (.string ⟨tx.toArray⟩) = x at *
          have d0 := ((K8.out)).cell 0
          have d1 := ((K8.out)).cell 1
          have d2 := ((K8.out)).cell 2
          have d3 := ((K8.out)).cell 3
          have d4 := ((K8.out)).cell 4
          have d5 := ((K8.out)).cell 5
          have f0 := ((K8.out)).frozen 0
          have f1 := ((K8.out)).frozen 1
          have f2 := ((K8.out)).frozen 2
          have f3 := ((K8.out)).frozen 3
          have f4 := ((K8.out)).frozen 4
          have f5 := ((K8.out)).frozen 5
          simp only [List.getElem?_toArray, List.getElem?_cons_zero, List.getElem?_cons_succ] at d0 d1 d2 d3 d4 d5
          clear f0 f1 f2 f3 f4 f5
          have e0 := K6.out.cell 0
          have e1 := K6.out.cell 1
          have e2 := K6.out.cell 2
          have e3 := K6.out.cell 3
          have e4 := K6.out.cell 4
          have e5 := K6.out.cell 5
          have f0 := K6.out.frozen 0
          have f1 := K6.out.frozen 1
          have f2 := K6.out.frozen 2
          have f3 := K6.out.frozen 3
          have f4 := K6.out.frozen 4
          have f5 := K6.out.frozen 5
          simp only [List.getElem?_toArray, List.getElem?_cons_zero, List.getElem?_cons_succ] at e0 e1 e2 e3 e4 e5
          go_wp2_with fail
          have hQ5 := K6.out.set6 (.string ⟨tx.toArray⟩) (.string { data := inn.toArray }) (.int .i64 0) (.string { data := #[] }) (.string { data := #[] }) (.bool false)
          have hB5 := But.set6R g6 x (.string ⟨tx.toArray⟩) (.string { data := inn.toArray }) (.int .i64 0) (.string { data := #[] }) (.string { data := #[] }) (.bool false)
          have t0 := hQ5.cell 0
          have t1 := hQ5.cell 1
          have t2 := hQ5.cell 2
          have t3 := hQ5.cell 3
          have t4 := hQ5.cell 4
          have t5 := hQ5.cell 5
          simp only [List.getElem?_toArray, List.getElem?_cons_zero, List.getElem?_cons_succ] at t0 t1 t2 t3 t4 t5
          have HBF := Lib.hid (HB.out.trans (hB5.below (by rw [HG6.out]; exact Nat.le_refl _) HB.out.size))
          generalize (((((x.setCell ⟨g6, 0, none⟩ (.string ⟨tx.toArray⟩)).setCell ⟨g6, 1, none⟩ (.string { data := inn.toArray })).setCell ⟨g6, 2, none⟩ (.int .i64 0)).setCell ⟨g6, 3, none⟩ (.string { data := #[] })).setCell ⟨g6, 4, none⟩ (.string { data := #[] })).setCell ⟨g6, 5, none⟩ (.bool false) = wf at *
          refine bodyPost_ret (v := .tuple #[.agg #[(.string ⟨tx.toArray⟩), (.string { data := inn.toArray }), (.int .i64 0), (.string { data := #[] }), (.string { data := #[] }), (.bool false)], .bool true]) (by simp [results, Tryd.results23, go_sem, t0, t1, t2, t3, t4, t5]) rfl ⟨by rw [HO.out]; rfl, HBF.out⟩
        by_cases h2 : name = [99, 97, 116]
        · have n0 : (nm.toList == [101, 99, 104, 111]) = false := (HNM.out [101, 99, 104, 111]).trans (decide_eq_false h0)
          have n1 : (nm.toList == [112, 117, 116]) = false := (HNM.out [112, 117, 116]).trans (decide_eq_false h1)
          have n2 : (nm.toList == [99, 97, 116]) = true := (HNM.out [99, 97, 116]).trans (decide_eq_true h2)
          have HO := Lib.hid (show doO name inn L = some ({ oc0 inn with out := inn, rest := [] }) by rw [h2]; rfl)
          clear h0 h1 h2
          have d0 := ((K8.out)).cell 0
          have d1 := ((K8.out)).cell 1
          have d2 := ((K8.out)).cell 2
          have d3 := ((K8.out)).cell 3
          have d4 := ((K8.out)).cell 4
          have d5 := ((K8.out)).cell 5
          have f0 := ((K8.out)).frozen 0
          have f1 := ((K8.out)).frozen 1
          have f2 := ((K8.out)).frozen 2
          have f3 := ((K8.out)).frozen 3
          have f4 := ((K8.out)).frozen 4
          have f5 := ((K8.out)).frozen 5
          simp only [List.getElem?_toArray, List.getElem?_cons_zero, List.getElem?_cons_succ] at d0 d1 d2 d3 d4 d5
          go_upto_region 23 with (fail)
          have q8 := K8.out.set 0 (.string ⟨inn.toArray⟩)
          simp only [List.setIfInBounds_toArray, List.set_cons_zero, List.set_cons_succ] at q8
          have q6 := (But.set (B := g8) x 0 (.string ⟨inn.toArray⟩)).blk K6.out HNE.out
          have qb := HB.out.trans ((But.set (B := g8) x 0 (.string ⟨inn.toArray⟩)).below HG8.out HB.out.size)
          replace K8 := Lib.hid q8
          replace K6 := Lib.hid q6
          replace HB := Lib.hid qb
          clear q8 q6 qb
          try clear d0 d1 d2 d3 d4 d5 f0 f1 f2 f3 f4 f5
          generalize x.setCell ⟨g8, 0, none⟩ (.string ⟨inn.toArray⟩) = x at *
          have d0 := ((K8.out)).cell 0
          have d1 := ((K8.out)).cell 1
          have d2 := ((K8.out)).cell 2
          have d3 := ((K8.out)).cell 3
          have d4 := ((K8.out)).cell 4
          have d5 := ((K8.out)).cell 5
          have f0 := ((K8.out)).frozen 0
          have f1 := ((K8.out)).frozen 1
          have f2 := ((K8.out)).frozen 2
          have f3 := ((K8.out)).frozen 3
          have f4 := ((K8.out)).frozen 4
          have f5 := ((K8.out)).frozen 5
          simp only [List.getElem?_toArray, List.getElem?_cons_zero, List.getElem?_cons_succ] at d0 d1 d2 d3 d4 d5
          go_upto_region 52 with (fail)
          have q8 := K8.out.set 1 (.string { data := #[] })
          simp only [List.setIfInBounds_toArray, List.set_cons_zero, List.set_cons_succ] at q8
          have q6 := (But.set (B := g8) x 1 (.string { data := #[] })).blk K6.out HNE.out
          have qb := HB.out.trans ((But.set (B := g8) x 1 (.string { data := #[] })).below HG8.out HB.out.size)
          replace K8 := Lib.hid q8
          replace K6 := Lib.hid q6
          replace HB := Lib.hid qb
          clear q8 q6 qb
          try clear d0 d1 d2 d3 d4 d5 f0 f1 f2 f3 f4 f5
          generalize x.setCell ⟨g8, 1, none⟩ (.string { data := #[] }) = x at *
          have d0 := ((K8.out)).cell 0
          have d1 := ((K8.out)).cell 1
          have d2 := ((K8.out)).cell 2
          have d3 := ((K8.out)).cell 3
          have d4 := ((K8.out)).cell 4
          have d5 := ((K8.out)).cell 5
          have f0 := ((K8.out)).frozen 0
          have f1 := ((K8.out)).frozen 1
          have f2 := ((K8.out)).frozen 2
          have f3 := ((K8.out)).frozen 3
          have f4 := ((K8.out)).frozen 4
          have f5 := ((K8.out)).frozen 5
          simp only [List.getElem?_toArray, List.getElem?_cons_zero, List.getElem?_cons_succ] at d0 d1 d2 d3 d4 d5
          clear f0 f1 f2 f3 f4 f5
          have e0 := K6.out.cell 0
          have e1 := K6.out.cell 1
          have e2 := K6.out.cell 2
          have e3 := K6.out.cell 3
          have e4 := K6.out.cell 4
          have e5 := K6.out.cell 5
          have f0 := K6.out.frozen 0
          have f1 := K6.out.frozen 1
          have f2 := K6.out.frozen 2
          have f3 := K6.out.frozen 3
          have f4 := K6.out.frozen 4
          have f5 := K6.out.frozen 5
          simp only [List.getElem?_toArray, List.getElem?_cons_zero, List.getElem?_cons_succ] at e0 e1 e2 e3 e4 e5
          go_wp2_with fail
          have hQ5 := K6.out.set6 (.string ⟨inn.toArray⟩) (.string { data := #[] }) (.int .i64 0) (.string { data := #[] }) (.string { data := #[] }) (.bool false)
          have hB5 := But.set6R g6 x (.string ⟨inn.toArray⟩) (.string { data := #[] }) (.int .i64 0) (.string { data := #[] }) (.string { data := #[] }) (.bool false)
          have t0 := hQ5.cell 0
          have t1 := hQ5.cell 1
          have t2 := hQ5.cell 2
          have t3 := hQ5.cell 3
          have t4 := hQ5.cell 4
          have t5 := hQ5.cell 5
          simp only [List.getElem?_toArray, List.getElem?_cons_zero, List.getElem?_cons_succ] at t0 t1 t2 t3 t4 t5
          have HBF := Lib.hid (HB.out.trans (hB5.below (by rw [HG6.out]; exact Nat.le_refl _) HB.out.size))
          generalize (((((x.setCell ⟨g6, 0, none⟩ (.string ⟨inn.toArray⟩)).setCell ⟨g6, 1, none⟩ (.string { data := #[] })).setCell ⟨g6, 2, none⟩ (.int .i64 0)).setCell ⟨g6, 3, none⟩ (.string { data := #[] })).setCell ⟨g6, 4, none⟩ (.string { data := #[] })).setCell ⟨g6, 5, none⟩ (.bool false) = wf at *
          refine bodyPost_ret (v := .tuple #[.agg #[(.string ⟨inn.toArray⟩), (.string { data := #[] }), (.int .i64 0), (.string { data := #[] }), (.string { data := #[] }), (.bool false)], .bool true]) (by simp [results, Tryd.results23, go_sem, t0, t1, t2, t3, t4, t5]) rfl ⟨by rw [HO.out]; rfl, HBF.out⟩
        by_cases h3 : name = [116, 114, 117, 101]
        · have n0 : (nm.toList == [101, 99, 104, 111]) = false := (HNM.out [101, 99, 104, 111]).trans (decide_eq_false h0)
          have n1 : (nm.toList == [112, 117, 116]) = false := (HNM.out [112, 117, 116]).trans (decide_eq_false h1)
          have n2 : (nm.toList == [99, 97, 116]) = false := (HNM.out [99, 97, 116]).trans (decide_eq_false h2)
          have n3 : (nm.toList == [116, 114, 117, 101]) = true := (HNM.out [116, 114, 117, 101]).trans (decide_eq_true h3)
          have HO := Lib.hid (show doO name inn L = some (oc0 inn) by rw [h3]; rfl)
          clear h0 h1 h2 h3
          go_upto_region 52 with (fail)
          have d0 := ((K8.out)).cell 0
          have d1 := ((K8.out)).cell 1
          have d2 := ((K8.out)).cell 2
          have d3 := ((K8.out)).cell 3
          have d4 := ((K8.out)).cell 4
          have d5 := ((K8.out)).cell 5
          have f0 := ((K8.out)).frozen 0
          have f1 := ((K8.out)).frozen 1
          have f2 := ((K8.out)).frozen 2
          have f3 := ((K8.out)).frozen 3
          have f4 := ((K8.out)).frozen 4
          have f5 := ((K8.out)).frozen 5
          simp only [List.getElem?_toArray, List.getElem?_cons_zero, List.getElem?_cons_succ] at d0 d1 d2 d3 d4 d5
          clear f0 f1 f2 f3 f4 f5
          have e0 := K6.out.cell 0
          have e1 := K6.out.cell 1
          have e2 := K6.out.cell 2
          have e3 := K6.out.cell 3
          have e4 := K6.out.cell 4
          have e5 := K6.out.cell 5
          have f0 := K6.out.frozen 0
          have f1 := K6.out.frozen 1
          have f2 := K6.out.frozen 2
          have f3 := K6.out.frozen 3
          have f4 := K6.out.frozen 4
          have f5 := K6.out.frozen 5
          simp only [List.getElem?_toArray, List.getElem?_cons_zero, List.getElem?_cons_succ] at e0 e1 e2 e3 e4 e5
          go_wp2_with fail
          have hQ5 := K6.out.set6 (.string { data := #[] }) (.string { data := inn.toArray }) (.int .i64 0) (.string { data := #[] }) (.string { data := #[] }) (.bool false)
          have hB5 := But.set6R g6 x (.string { data := #[] }) (.string { data := inn.toArray }) (.int .i64 0) (.string { data := #[] }) (.string { data := #[] }) (.bool false)
          have t0 := hQ5.cell 0
          have t1 := hQ5.cell 1
          have t2 := hQ5.cell 2
          have t3 := hQ5.cell 3
          have t4 := hQ5.cell 4
          have t5 := hQ5.cell 5
          simp only [List.getElem?_toArray, List.getElem?_cons_zero, List.getElem?_cons_succ] at t0 t1 t2 t3 t4 t5
          have HBF := Lib.hid (HB.out.trans (hB5.below (by rw [HG6.out]; exact Nat.le_refl _) HB.out.size))
          generalize (((((x.setCell ⟨g6, 0, none⟩ (.string { data := #[] })).setCell ⟨g6, 1, none⟩ (.string { data := inn.toArray })).setCell ⟨g6, 2, none⟩ (.int .i64 0)).setCell ⟨g6, 3, none⟩ (.string { data := #[] })).setCell ⟨g6, 4, none⟩ (.string { data := #[] })).setCell ⟨g6, 5, none⟩ (.bool false) = wf at *
          refine bodyPost_ret (v := .tuple #[.agg #[(.string { data := #[] }), (.string { data := inn.toArray }), (.int .i64 0), (.string { data := #[] }), (.string { data := #[] }), (.bool false)], .bool true]) (by simp [results, Tryd.results23, go_sem, t0, t1, t2, t3, t4, t5]) rfl ⟨by rw [HO.out]; rfl, HBF.out⟩
        by_cases h4 : name = [102, 97, 108, 115, 101]
        · have n0 : (nm.toList == [101, 99, 104, 111]) = false := (HNM.out [101, 99, 104, 111]).trans (decide_eq_false h0)
          have n1 : (nm.toList == [112, 117, 116]) = false := (HNM.out [112, 117, 116]).trans (decide_eq_false h1)
          have n2 : (nm.toList == [99, 97, 116]) = false := (HNM.out [99, 97, 116]).trans (decide_eq_false h2)
          have n3 : (nm.toList == [116, 114, 117, 101]) = false := (HNM.out [116, 114, 117, 101]).trans (decide_eq_false h3)
          have n4 : (nm.toList == [102, 97, 108, 115, 101]) = true := (HNM.out [102, 97, 108, 115, 101]).trans (decide_eq_true h4)
          have HO := Lib.hid (show doO name inn L = some ({ oc0 inn with status := 1 }) by rw [h4]; rfl)
          clear h0 h1 h2 h3 h4
          have d0 := ((K8.out)).cell 0
          have d1 := ((K8.out)).cell 1
          have d2 := ((K8.out)).cell 2
          have d3 := ((K8.out)).cell 3
          have d4 := ((K8.out)).cell 4
          have d5 := ((K8.out)).cell 5
          have f0 := ((K8.out)).frozen 0
          have f1 := ((K8.out)).frozen 1
          have f2 := ((K8.out)).frozen 2
          have f3 := ((K8.out)).frozen 3
          have f4 := ((K8.out)).frozen 4
          have f5 := ((K8.out)).frozen 5
          simp only [List.getElem?_toArray, List.getElem?_cons_zero, List.getElem?_cons_succ] at d0 d1 d2 d3 d4 d5
          go_upto_region 54 with (fail)
          have q8 := K8.out.set 2 (.int .i64 1)
          simp only [List.setIfInBounds_toArray, List.set_cons_zero, List.set_cons_succ] at q8
          have q6 := (But.set (B := g8) x 2 (.int .i64 1)).blk K6.out HNE.out
          have qb := HB.out.trans ((But.set (B := g8) x 2 (.int .i64 1)).below HG8.out HB.out.size)
          replace K8 := Lib.hid q8
          replace K6 := Lib.hid q6
          replace HB := Lib.hid qb
          clear q8 q6 qb
          try clear d0 d1 d2 d3 d4 d5 f0 f1 f2 f3 f4 f5
          generalize x.setCell ⟨g8, 2, none⟩ (.int .i64 1) = x at *
          have d0 := ((K8.out)).cell 0
          have d1 := ((K8.out)).cell 1
          have d2 := ((K8.out)).cell 2
          have d3 := ((K8.out)).cell 3
          have d4 := ((K8.out)).cell 4
          have d5 := ((K8.out)).cell 5
          have f0 := ((K8.out)).frozen 0
          have f1 := ((K8.out)).frozen 1
          have f2 := ((K8.out)).frozen 2
          have f3 := ((K8.out)).frozen 3
          have f4 := ((K8.out)).frozen 4
          have f5 := ((K8.out)).frozen 5
          simp only [List.getElem?_toArray, List.getElem?_cons_zero, List.getElem?_cons_succ] at d0 d1 d2 d3 d4 d5
          clear f0 f1 f2 f3 f4 f5
          have e0 := K6.out.cell 0
          have e1 := K6.out.cell 1
          have e2 := K6.out.cell 2
          have e3 := K6.out.cell 3
          have e4 := K6.out.cell 4
          have e5 := K6.out.cell 5
          have f0 := K6.out.frozen 0
          have f1 := K6.out.frozen 1
          have f2 := K6.out.frozen 2
          have f3 := K6.out.frozen 3
          have f4 := K6.out.frozen 4
          have f5 := K6.out.frozen 5
          simp only [List.getElem?_toArray, List.getElem?_cons_zero, List.getElem?_cons_succ] at e0 e1 e2 e3 e4 e5
          go_wp2_with fail
          have hQ5 := K6.out.set6 (.string { data := #[] }) (.string { data := inn.toArray }) (.int .i64 1) (.string { data := #[] }) (.string { data := #[] }) (.bool false)
          have hB5 := But.set6R g6 x (.string { data := #[] }) (.string { data := inn.toArray }) (.int .i64 1) (.string { data := #[] }) (.string { data := #[] }) (.bool false)
          have t0 := hQ5.cell 0
          have t1 := hQ5.cell 1
          have t2 := hQ5.cell 2
          have t3 := hQ5.cell 3
          have t4 := hQ5.cell 4
          have t5 := hQ5.cell 5
          simp only [List.getElem?_toArray, List.getElem?_cons_zero, List.getElem?_cons_succ] at t0 t1 t2 t3 t4 t5
          have HBF := Lib.hid (HB.out.trans (hB5.below (by rw [HG6.out]; exact Nat.le_refl _) HB.out.size))
          generalize (((((x.setCell ⟨g6, 0, none⟩ (.string { data := #[] })).setCell ⟨g6, 1, none⟩ (.string { data := inn.toArray })).setCell ⟨g6, 2, none⟩ (.int .i64 1)).setCell ⟨g6, 3, none⟩ (.string { data := #[] })).setCell ⟨g6, 4, none⟩ (.string { data := #[] })).setCell ⟨g6, 5, none⟩ (.bool false) = wf at *
          refine bodyPost_ret (v := .tuple #[.agg #[(.string { data := #[] }), (.string { data := inn.toArray }), (.int .i64 1), (.string { data := #[] }), (.string { data := #[] }), (.bool false)], .bool true]) (by simp [results, Tryd.results23, go_sem, t0, t1, t2, t3, t4, t5]) rfl ⟨by rw [HO.out]; rfl, HBF.out⟩
        by_cases h5 : name = [101, 113]
        · have n0 : (nm.toList == [101, 99, 104, 111]) = false := (HNM.out [101, 99, 104, 111]).trans (decide_eq_false h0)
          have n1 : (nm.toList == [112, 117, 116]) = false := (HNM.out [112, 117, 116]).trans (decide_eq_false h1)
          have n2 : (nm.toList == [99, 97, 116]) = false := (HNM.out [99, 97, 116]).trans (decide_eq_false h2)
          have n3 : (nm.toList == [116, 114, 117, 101]) = false := (HNM.out [116, 114, 117, 101]).trans (decide_eq_false h3)
          have n4 : (nm.toList == [102, 97, 108, 115, 101]) = false := (HNM.out [102, 97, 108, 115, 101]).trans (decide_eq_false h4)
          have n5 : (nm.toList == [101, 113]) = true := (HNM.out [101, 113]).trans (decide_eq_true h5)
          have HO := Lib.hid (show doO name inn L = some ({ oc0 inn with status := if eqA L then 0 else 1 }) by rw [h5]; rfl)
          clear h0 h1 h2 h3 h4 h5
          go_upto_region 28 with (fail)
          have HQ := Lib.hid ((not_two h2L).1)
          rw [HQ.out] at HO
          refine wp_region_eq (by kernel_rfl) (by kernel_rfl) ?_
          apply EqGo.run
          focus
            kernel_rfl
          focus
            intro x K hK
            go_wp2_with fail
            first | exact hK x (Below.refl _ _) | exact Below.refl _ _
          simp only [Act.put, List.setIfInBounds_toArray, List.set_cons_succ, List.set_cons_zero]
          apply EqGo.run
          focus
            kernel_rfl
          focus
            intro x K hK
            go_wp2_with fail
            first | exact hK x (Below.refl _ _) | exact Below.refl _ _
          simp only [Act.put, List.setIfInBounds_toArray, List.set_cons_succ, List.set_cons_zero]
          apply EqGo.run
          focus
            kernel_rfl
          focus
            intro x K hK
            go_wp2_with fail
            first | exact hK x (Below.refl _ _) | exact Below.refl _ _
          simp only [Act.put, List.setIfInBounds_toArray, List.set_cons_succ, List.set_cons_zero]
          apply EqGo.run
          focus
            kernel_rfl
          focus
            intro x K hK
            go_wp2_with fail
            first | exact hK x (Below.refl _ _) | exact Below.refl _ _
          simp only [Act.put, List.setIfInBounds_toArray, List.set_cons_succ, List.set_cons_zero]
          apply EqGo.skip
          focus
            kernel_rfl
          simp only [Act.put, List.setIfInBounds_toArray, List.set_cons_succ, List.set_cons_zero]
          apply EqGo.skip
          focus
            kernel_rfl
          simp only [Act.put, List.setIfInBounds_toArray, List.set_cons_succ, List.set_cons_zero]
          apply EqGo.skip
          focus
            kernel_rfl
          simp only [Act.put, List.setIfInBounds_toArray, List.set_cons_succ, List.set_cons_zero]
          apply EqGo.skip
          focus
            kernel_rfl
          simp only [Act.put, List.setIfInBounds_toArray, List.set_cons_succ, List.set_cons_zero]
          apply EqGo.skip
          focus
            kernel_rfl
          simp only [Act.put, List.setIfInBounds_toArray, List.set_cons_succ, List.set_cons_zero]
          apply EqGo.skip
          focus
            kernel_rfl
          simp only [Act.put, List.setIfInBounds_toArray, List.set_cons_succ, List.set_cons_zero]
          apply EqGo.skip
          focus
            kernel_rfl
          simp only [Act.put, List.setIfInBounds_toArray, List.set_cons_succ, List.set_cons_zero]
          apply EqGo.run
          focus
            kernel_rfl
          focus
            intro x K hK
            go_wp2_with fail
            first | exact hK x (Below.refl _ _) | exact Below.refl _ _
          simp only [Act.put, List.setIfInBounds_toArray, List.set_cons_succ, List.set_cons_zero]
          apply EqGo.run
          focus
            kernel_rfl
          focus
            intro x K hK
            go_wp2_with fail
            first | exact hK x (Below.refl _ _) | exact Below.refl _ _
          simp only [Act.put, List.setIfInBounds_toArray, List.set_cons_succ, List.set_cons_zero]
          intro x0
          have qx := x0.below
          replace K8 := Lib.hid (K8.out.below qx)
          replace K6 := Lib.hid (K6.out.below qx)
          replace HB := Lib.hid (HB.out.trans (qx.mono HB.out.size))
          clear qx
          generalize x0.val = x at *
          clear x0
          have d0 := ((K8.out)).cell 0
          have d1 := ((K8.out)).cell 1
          have d2 := ((K8.out)).cell 2
          have d3 := ((K8.out)).cell 3
          have d4 := ((K8.out)).cell 4
          have d5 := ((K8.out)).cell 5
          have f0 := ((K8.out)).frozen 0
          have f1 := ((K8.out)).frozen 1
          have f2 := ((K8.out)).frozen 2
          have f3 := ((K8.out)).frozen 3
          have f4 := ((K8.out)).frozen 4
          have f5 := ((K8.out)).frozen 5
          simp only [List.getElem?_toArray, List.getElem?_cons_zero, List.getElem?_cons_succ] at d0 d1 d2 d3 d4 d5
          go_upto_region 54 with (fail)
          have q8 := K8.out.set 2 (.int .i64 1)
          simp only [List.setIfInBounds_toArray, List.set_cons_zero, List.set_cons_succ] at q8
          have q6 := (But.set (B := g8) x 2 (.int .i64 1)).blk K6.out HNE.out
          have qb := HB.out.trans ((But.set (B := g8) x 2 (.int .i64 1)).below HG8.out HB.out.size)
          replace K8 := Lib.hid q8
          replace K6 := Lib.hid q6
          replace HB := Lib.hid qb
          clear q8 q6 qb
          try clear d0 d1 d2 d3 d4 d5 f0 f1 f2 f3 f4 f5
          generalize x.setCell ⟨g8, 2, none⟩ (.int .i64 1) = x at *
          have d0 := ((K8.out)).cell 0
          have d1 := ((K8.out)).cell 1
          have d2 := ((K8.out)).cell 2
          have d3 := ((K8.out)).cell 3
          have d4 := ((K8.out)).cell 4
          have d5 := ((K8.out)).cell 5
          have f0 := ((K8.out)).frozen 0
          have f1 := ((K8.out)).frozen 1
          have f2 := ((K8.out)).frozen 2
          have f3 := ((K8.out)).frozen 3
          have f4 := ((K8.out)).frozen 4
          have f5 := ((K8.out)).frozen 5
          simp only [List.getElem?_toArray, List.getElem?_cons_zero, List.getElem?_cons_succ] at d0 d1 d2 d3 d4 d5
          clear f0 f1 f2 f3 f4 f5
          have e0 := K6.out.cell 0
          have e1 := K6.out.cell 1
          have e2 := K6.out.cell 2
          have e3 := K6.out.cell 3
          have e4 := K6.out.cell 4
          have e5 := K6.out.cell 5
          have f0 := K6.out.frozen 0
          have f1 := K6.out.frozen 1
          have f2 := K6.out.frozen 2
          have f3 := K6.out.frozen 3
          have f4 := K6.out.frozen 4
          have f5 := K6.out.frozen 5
          simp only [List.getElem?_toArray, List.getElem?_cons_zero, List.getElem?_cons_succ] at e0 e1 e2 e3 e4 e5
          go_wp2_with fail
          have hQ5 := K6.out.set6 (.string { data := #[] }) (.string { data := inn.toArray }) (.int .i64 1) (.string { data := #[] }) (.string { data := #[] }) (.bool false)
          have hB5 := But.set6R g6 x (.string { data := #[] }) (.string { data := inn.toArray }) (.int .i64 1) (.string { data := #[] }) (.string { data := #[] }) (.bool false)
          have t0 := hQ5.cell 0
          have t1 := hQ5.cell 1
          have t2 := hQ5.cell 2
          have t3 := hQ5.cell 3
          have t4 := hQ5.cell 4
          have t5 := hQ5.cell 5
          simp only [List.getElem?_toArray, List.getElem?_cons_zero, List.getElem?_cons_succ] at t0 t1 t2 t3 t4 t5
          have HBF := Lib.hid (HB.out.trans (hB5.below (by rw [HG6.out]; exact Nat.le_refl _) HB.out.size))
          generalize (((((x.setCell ⟨g6, 0, none⟩ (.string { data := #[] })).setCell ⟨g6, 1, none⟩ (.string { data := inn.toArray })).setCell ⟨g6, 2, none⟩ (.int .i64 1)).setCell ⟨g6, 3, none⟩ (.string { data := #[] })).setCell ⟨g6, 4, none⟩ (.string { data := #[] })).setCell ⟨g6, 5, none⟩ (.bool false) = wf at *
          refine bodyPost_ret (v := .tuple #[.agg #[(.string { data := #[] }), (.string { data := inn.toArray }), (.int .i64 1), (.string { data := #[] }), (.string { data := #[] }), (.bool false)], .bool true]) (by simp [results, Tryd.results23, go_sem, t0, t1, t2, t3, t4, t5]) rfl ⟨by rw [HO.out]; rfl, HBF.out⟩
        by_cases h6 : name = [108, 105, 107, 101]
        · have n0 : (nm.toList == [101, 99, 104, 111]) = false := (HNM.out [101, 99, 104, 111]).trans (decide_eq_false h0)
          have n1 : (nm.toList == [112, 117, 116]) = false := (HNM.out [112, 117, 116]).trans (decide_eq_false h1)
          have n2 : (nm.toList == [99, 97, 116]) = false := (HNM.out [99, 97, 116]).trans (decide_eq_false h2)
          have n3 : (nm.toList == [116, 114, 117, 101]) = false := (HNM.out [116, 114, 117, 101]).trans (decide_eq_false h3)
          have n4 : (nm.toList == [102, 97, 108, 115, 101]) = false := (HNM.out [102, 97, 108, 115, 101]).trans (decide_eq_false h4)
          have n5 : (nm.toList == [101, 113]) = false := (HNM.out [101, 113]).trans (decide_eq_false h5)
          have n6 : (nm.toList == [108, 105, 107, 101]) = true := (HNM.out [108, 105, 107, 101]).trans (decide_eq_true h6)
          have HO := Lib.hid (show doO name inn L = some ({ oc0 inn with status := if likeA L then 0 else 1 }) by rw [h6]; rfl)
          clear h0 h1 h2 h3 h4 h5 h6
          go_upto_region 30 with (fail)
          have HQ := Lib.hid ((not_two h2L).2.1)
          rw [HQ.out] at HO
          refine wp_region_eq (by kernel_rfl) (by kernel_rfl) ?_
          apply EqGo.run
          focus
            kernel_rfl
          focus
            intro x K hK
            go_wp2_with fail
            first | exact hK x (Below.refl _ _) | exact Below.refl _ _
          simp only [Act.put, List.setIfInBounds_toArray, List.set_cons_succ, List.set_cons_zero]
          apply EqGo.run
          focus
            kernel_rfl
          focus
            intro x K hK
            go_wp2_with fail
            first | exact hK x (Below.refl _ _) | exact Below.refl _ _
          simp only [Act.put, List.setIfInBounds_toArray, List.set_cons_succ, List.set_cons_zero]
          apply EqGo.run
          focus
            kernel_rfl
          focus
            intro x K hK
            go_wp2_with fail
            first | exact hK x (Below.refl _ _) | exact Below.refl _ _
          simp only [Act.put, List.setIfInBounds_toArray, List.set_cons_succ, List.set_cons_zero]
          apply EqGo.run
          focus
            kernel_rfl
          focus
            intro x K hK
            go_wp2_with fail
            first | exact hK x (Below.refl _ _) | exact Below.refl _ _
          simp only [Act.put, List.setIfInBounds_toArray, List.set_cons_succ, List.set_cons_zero]
          apply EqGo.skip
          focus
            kernel_rfl
          simp only [Act.put, List.setIfInBounds_toArray, List.set_cons_succ, List.set_cons_zero]
          apply EqGo.skip
          focus
            kernel_rfl
          simp only [Act.put, List.setIfInBounds_toArray, List.set_cons_succ, List.set_cons_zero]
          apply EqGo.skip
          focus
            kernel_rfl
          simp only [Act.put, List.setIfInBounds_toArray, List.set_cons_succ, List.set_cons_zero]
          apply EqGo.skip
          focus
            kernel_rfl
          simp only [Act.put, List.setIfInBounds_toArray, List.set_cons_succ, List.set_cons_zero]
          apply EqGo.skip
          focus
            kernel_rfl
          simp only [Act.put, List.setIfInBounds_toArray, List.set_cons_succ, List.set_cons_zero]
          apply EqGo.skip
          focus
            kernel_rfl
          simp only [Act.put, List.setIfInBounds_toArray, List.set_cons_succ, List.set_cons_zero]
          apply EqGo.skip
          focus
            kernel_rfl
          simp only [Act.put, List.setIfInBounds_toArray, List.set_cons_succ, List.set_cons_zero]
          apply EqGo.run
          focus
            kernel_rfl
          focus
            intro x K hK
            go_wp2_with fail
            first | exact hK x (Below.refl _ _) | exact Below.refl _ _
          simp only [Act.put, List.setIfInBounds_toArray, List.set_cons_succ, List.set_cons_zero]
          apply EqGo.run
          focus
            kernel_rfl
          focus
            intro x K hK
            go_wp2_with fail
            first | exact hK x (Below.refl _ _) | exact Below.refl _ _
          simp only [Act.put, List.setIfInBounds_toArray, List.set_cons_succ, List.set_cons_zero]
          intro x0
          have qx := x0.below
          replace K8 := Lib.hid (K8.out.below qx)
          replace K6 := Lib.hid (K6.out.below qx)
          replace HB := Lib.hid (HB.out.trans (qx.mono HB.out.size))
          clear qx
          generalize x0.val = x at *
          clear x0
          have d0 := ((K8.out)).cell 0
          have d1 := ((K8.out)).cell 1
          have d2 := ((K8.out)).cell 2
          have d3 := ((K8.out)).cell 3
          have d4 := ((K8.out)).cell 4
          have d5 := ((K8.out)).cell 5
          have f0 := ((K8.out)).frozen 0
          have f1 := ((K8.out)).frozen 1
          have f2 := ((K8.out)).frozen 2
          have f3 := ((K8.out)).frozen 3
          have f4 := ((K8.out)).frozen 4
          have f5 := ((K8.out)).frozen 5
          simp only [List.getElem?_toArray, List.getElem?_cons_zero, List.getElem?_cons_succ] at d0 d1 d2 d3 d4 d5
          go_upto_region 54 with (fail)
          have q8 := K8.out.set 2 (.int .i64 1)
          simp only [List.setIfInBounds_toArray, List.set_cons_zero, List.set_cons_succ] at q8
          have q6 := (But.set (B := g8) x 2 (.int .i64 1)).blk K6.out HNE.out
          have qb := HB.out.trans ((But.set (B := g8) x 2 (.int .i64 1)).below HG8.out HB.out.size)
          replace K8 := Lib.hid q8
          replace K6 := Lib.hid q6
          replace HB := Lib.hid qb
          clear q8 q6 qb
          try clear d0 d1 d2 d3 d4 d5 f0 f1 f2 f3 f4 f5
          generalize x.setCell ⟨g8, 2, none⟩ (.int .i64 1) = x at *
          have d0 := ((K8.out)).cell 0
          have d1 := ((K8.out)).cell 1
          have d2 := ((K8.out)).cell 2
          have d3 := ((K8.out)).cell 3
          have d4 := ((K8.out)).cell 4
          have d5 := ((K8.out)).cell 5
          have f0 := ((K8.out)).frozen 0
          have f1 := ((K8.out)).frozen 1
          have f2 := ((K8.out)).frozen 2
          have f3 := ((K8.out)).frozen 3
          have f4 := ((K8.out)).frozen 4
          have f5 := ((K8.out)).frozen 5
          simp only [List.getElem?_toArray, List.getElem?_cons_zero, List.getElem?_cons_succ] at d0 d1 d2 d3 d4 d5
          clear f0 f1 f2 f3 f4 f5
          have e0 := K6.out.cell 0
          have e1 := K6.out.cell 1
          have e2 := K6.out.cell 2
          have e3 := K6.out.cell 3
          have e4 := K6.out.cell 4
          have e5 := K6.out.cell 5
          have f0 := K6.out.frozen 0
          have f1 := K6.out.frozen 1
          have f2 := K6.out.frozen 2
          have f3 := K6.out.frozen 3
          have f4 := K6.out.frozen 4
          have f5 := K6.out.frozen 5
          simp only [List.getElem?_toArray, List.getElem?_cons_zero, List.getElem?_cons_succ] at e0 e1 e2 e3 e4 e5
          go_wp2_with fail
          have hQ5 := K6.out.set6 (.string { data := #[] }) (.string { data := inn.toArray }) (.int .i64 1) (.string { data := #[] }) (.string { data := #[] }) (.bool false)
          have hB5 := But.set6R g6 x (.string { data := #[] }) (.string { data := inn.toArray }) (.int .i64 1) (.string { data := #[] }) (.string { data := #[] }) (.bool false)
          have t0 := hQ5.cell 0
          have t1 := hQ5.cell 1
          have t2 := hQ5.cell 2
          have t3 := hQ5.cell 3
          have t4 := hQ5.cell 4
          have t5 := hQ5.cell 5
          simp only [List.getElem?_toArray, List.getElem?_cons_zero, List.getElem?_cons_succ] at t0 t1 t2 t3 t4 t5
          have HBF := Lib.hid (HB.out.trans (hB5.below (by rw [HG6.out]; exact Nat.le_refl _) HB.out.size))
          generalize (((((x.setCell ⟨g6, 0, none⟩ (.string { data := #[] })).setCell ⟨g6, 1, none⟩ (.string { data := inn.toArray })).setCell ⟨g6, 2, none⟩ (.int .i64 1)).setCell ⟨g6, 3, none⟩ (.string { data := #[] })).setCell ⟨g6, 4, none⟩ (.string { data := #[] })).setCell ⟨g6, 5, none⟩ (.bool false) = wf at *
          refine bodyPost_ret (v := .tuple #[.agg #[(.string { data := #[] }), (.string { data := inn.toArray }), (.int .i64 1), (.string { data := #[] }), (.string { data := #[] }), (.bool false)], .bool true]) (by simp [results, Tryd.results23, go_sem, t0, t1, t2, t3, t4, t5]) rfl ⟨by rw [HO.out]; rfl, HBF.out⟩
        by_cases h7 : name = [108, 101, 115, 115]
        · have n0 : (nm.toList == [101, 99, 104, 111]) = false := (HNM.out [101, 99, 104, 111]).trans (decide_eq_false h0)
          have n1 : (nm.toList == [112, 117, 116]) = false := (HNM.out [112, 117, 116]).trans (decide_eq_false h1)
          have n2 : (nm.toList == [99, 97, 116]) = false := (HNM.out [99, 97, 116]).trans (decide_eq_false h2)
          have n3 : (nm.toList == [116, 114, 117, 101]) = false := (HNM.out [116, 114, 117, 101]).trans (decide_eq_false h3)
          have n4 : (nm.toList == [102, 97, 108, 115, 101]) = false := (HNM.out [102, 97, 108, 115, 101]).trans (decide_eq_false h4)
          have n5 : (nm.toList == [101, 113]) = false := (HNM.out [101, 113]).trans (decide_eq_false h5)
          have n6 : (nm.toList == [108, 105, 107, 101]) = false := (HNM.out [108, 105, 107, 101]).trans (decide_eq_false h6)
          have n7 : (nm.toList == [108, 101, 115, 115]) = true := (HNM.out [108, 101, 115, 115]).trans (decide_eq_true h7)
          have HO := Lib.hid (show doO name inn L = some ({ oc0 inn with status := if lessA L then 0 else 1 }) by rw [h7]; rfl)
          clear h0 h1 h2 h3 h4 h5 h6 h7
          replace HO := Lib.hid (show doO name inn L = some ⟨[], inn, 1, [], [], false⟩ by rw [HO.out]; unfold lessA; rw [(not_two h2L).2.2]; rfl)
          have d0 := ((K8.out)).cell 0
          have d1 := ((K8.out)).cell 1
          have d2 := ((K8.out)).cell 2
          have d3 := ((K8.out)).cell 3
          have d4 := ((K8.out)).cell 4
          have d5 := ((K8.out)).cell 5
          have f0 := ((K8.out)).frozen 0
          have f1 := ((K8.out)).frozen 1
          have f2 := ((K8.out)).frozen 2
          have f3 := ((K8.out)).frozen 3
          have f4 := ((K8.out)).frozen 4
          have f5 := ((K8.out)).frozen 5
          simp only [List.getElem?_toArray, List.getElem?_cons_zero, List.getElem?_cons_succ] at d0 d1 d2 d3 d4 d5
          go_upto_region 54 with (fail)
          have q8 := K8.out.set 2 (.int .i64 1)
          simp only [List.setIfInBounds_toArray, List.set_cons_zero, List.set_cons_succ] at q8
          have q6 := (But.set (B := g8) x 2 (.int .i64 1)).blk K6.out HNE.out
          have qb := HB.out.trans ((But.set (B := g8) x 2 (.int .i64 1)).below HG8.out HB.out.size)
          replace K8 := Lib.hid q8
          replace K6 := Lib.hid q6
          replace HB := Lib.hid qb
          clear q8 q6 qb
          try clear d0 d1 d2 d3 d4 d5 f0 f1 f2 f3 f4 f5
          generalize x.setCell ⟨g8, 2, none⟩ (.int .i64 1) = x at *
          have d0 := ((K8.out)).cell 0
          have d1 := ((K8.out)).cell 1
          have d2 := ((K8.out)).cell 2
          have d3 := ((K8.out)).cell 3
          have d4 := ((K8.out)).cell 4
          have d5 := ((K8.out)).cell 5
          have f0 := ((K8.out)).frozen 0
          have f1 := ((K8.out)).frozen 1
          have f2 := ((K8.out)).frozen 2
          have f3 := ((K8.out)).frozen 3
          have f4 := ((K8.out)).frozen 4
          have f5 := ((K8.out)).frozen 5
          simp only [List.getElem?_toArray, List.getElem?_cons_zero, List.getElem?_cons_succ] at d0 d1 d2 d3 d4 d5
          clear f0 f1 f2 f3 f4 f5
          have e0 := K6.out.cell 0
          have e1 := K6.out.cell 1
          have e2 := K6.out.cell 2
          have e3 := K6.out.cell 3
          have e4 := K6.out.cell 4
          have e5 := K6.out.cell 5
          have f0 := K6.out.frozen 0
          have f1 := K6.out.frozen 1
          have f2 := K6.out.frozen 2
          have f3 := K6.out.frozen 3
          have f4 := K6.out.frozen 4
          have f5 := K6.out.frozen 5
          simp only [List.getElem?_toArray, List.getElem?_cons_zero, List.getElem?_cons_succ] at e0 e1 e2 e3 e4 e5
          go_wp2_with fail
          have hQ5 := K6.out.set6 (.string { data := #[] }) (.string { data := inn.toArray }) (.int .i64 1) (.string { data := #[] }) (.string { data := #[] }) (.bool false)
          have hB5 := But.set6R g6 x (.string { data := #[] }) (.string { data := inn.toArray }) (.int .i64 1) (.string { data := #[] }) (.string { data := #[] }) (.bool false)
          have t0 := hQ5.cell 0
          have t1 := hQ5.cell 1
          have t2 := hQ5.cell 2
          have t3 := hQ5.cell 3
          have t4 := hQ5.cell 4
          have t5 := hQ5.cell 5
          simp only [List.getElem?_toArray, List.getElem?_cons_zero, List.getElem?_cons_succ] at t0 t1 t2 t3 t4 t5
          have HBF := Lib.hid (HB.out.trans (hB5.below (by rw [HG6.out]; exact Nat.le_refl _) HB.out.size))
          generalize (((((x.setCell ⟨g6, 0, none⟩ (.string { data := #[] })).setCell ⟨g6, 1, none⟩ (.string { data := inn.toArray })).setCell ⟨g6, 2, none⟩ (.int .i64 1)).setCell ⟨g6, 3, none⟩ (.string { data := #[] })).setCell ⟨g6, 4, none⟩ (.string { data := #[] })).setCell ⟨g6, 5, none⟩ (.bool false) = wf at *
          refine bodyPost_ret (v := .tuple #[.agg #[(.string { data := #[] }), (.string { data := inn.toArray }), (.int .i64 1), (.string { data := #[] }), (.string { data := #[] }), (.bool false)], .bool true]) (by simp [results, Tryd.results23, go_sem, t0, t1, t2, t3, t4, t5]) rfl ⟨by rw [HO.out]; rfl, HBF.out⟩
        by_cases h8 : name = [97, 100, 100]
        · have n0 : (nm.toList == [101, 99, 104, 111]) = false := (HNM.out [101, 99, 104, 111]).trans (decide_eq_false h0)
          have n1 : (nm.toList == [112, 117, 116]) = false := (HNM.out [112, 117, 116]).trans (decide_eq_false h1)
          have n2 : (nm.toList == [99, 97, 116]) = false := (HNM.out [99, 97, 116]).trans (decide_eq_false h2)
          have n3 : (nm.toList == [116, 114, 117, 101]) = false := (HNM.out [116, 114, 117, 101]).trans (decide_eq_false h3)
          have n4 : (nm.toList == [102, 97, 108, 115, 101]) = false := (HNM.out [102, 97, 108, 115, 101]).trans (decide_eq_false h4)
          have n5 : (nm.toList == [101, 113]) = false := (HNM.out [101, 113]).trans (decide_eq_false h5)
          have n6 : (nm.toList == [108, 105, 107, 101]) = false := (HNM.out [108, 105, 107, 101]).trans (decide_eq_false h6)
          have n7 : (nm.toList == [108, 101, 115, 115]) = false := (HNM.out [108, 101, 115, 115]).trans (decide_eq_false h7)
          have n8 : (nm.toList == [97, 100, 100]) = true := (HNM.out [97, 100, 100]).trans (decide_eq_true h8)
          have HO := Lib.hid (show doO name inn L = some (addA L (oc0 inn)) by rw [h8]; rfl)
          clear h0 h1 h2 h3 h4 h5 h6 h7 h8
          replace HO := Lib.hid (show doO name inn L = some ⟨[], inn, 1, [], [], false⟩ by rw [HO.out]; unfold addA; rw [(not_two h2L).2.2]; rfl)
          have d0 := ((K8.out)).cell 0
          have d1 := ((K8.out)).cell 1
          have d2 := ((K8.out)).cell 2
          have d3 := ((K8.out)).cell 3
          have d4 := ((K8.out)).cell 4
          have d5 := ((K8.out)).cell 5
          have f0 := ((K8.out)).frozen 0
          have f1 := ((K8.out)).frozen 1
          have f2 := ((K8.out)).frozen 2
          have f3 := ((K8.out)).frozen 3
          have f4 := ((K8.out)).frozen 4
          have f5 := ((K8.out)).frozen 5
          simp only [List.getElem?_toArray, List.getElem?_cons_zero, List.getElem?_cons_succ] at d0 d1 d2 d3 d4 d5
          go_upto_region 54 with (fail)
          have q8 := K8.out.set 2 (.int .i64 1)
          simp only [List.setIfInBounds_toArray, List.set_cons_zero, List.set_cons_succ] at q8
          have q6 := (But.set (B := g8) x 2 (.int .i64 1)).blk K6.out HNE.out
          have qb := HB.out.trans ((But.set (B := g8) x 2 (.int .i64 1)).below HG8.out HB.out.size)
          replace K8 := Lib.hid q8
          replace K6 := Lib.hid q6
          replace HB := Lib.hid qb
          clear q8 q6 qb
          try clear d0 d1 d2 d3 d4 d5 f0 f1 f2 f3 f4 f5
          generalize x.setCell ⟨g8, 2, none⟩ (.int .i64 1) = x at *
          have d0 := ((K8.out)).cell 0
          have d1 := ((K8.out)).cell 1
          have d2 := ((K8.out)).cell 2
          have d3 := ((K8.out)).cell 3
          have d4 := ((K8.out)).cell 4
          have d5 := ((K8.out)).cell 5
          have f0 := ((K8.out)).frozen 0
          have f1 := ((K8.out)).frozen 1
          have f2 := ((K8.out)).frozen 2
          have f3 := ((K8.out)).frozen 3
          have f4 := ((K8.out)).frozen 4
          have f5 := ((K8.out)).frozen 5
          simp only [List.getElem?_toArray, List.getElem?_cons_zero, List.getElem?_cons_succ] at d0 d1 d2 d3 d4 d5
          clear f0 f1 f2 f3 f4 f5
          have e0 := K6.out.cell 0
          have e1 := K6.out.cell 1
          have e2 := K6.out.cell 2
          have e3 := K6.out.cell 3
          have e4 := K6.out.cell 4
          have e5 := K6.out.cell 5
          have f0 := K6.out.frozen 0
          have f1 := K6.out.frozen 1
          have f2 := K6.out.frozen 2
          have f3 := K6.out.frozen 3
          have f4 := K6.out.frozen 4
          have f5 := K6.out.frozen 5
          simp only [List.getElem?_toArray, List.getElem?_cons_zero, List.getElem?_cons_succ] at e0 e1 e2 e3 e4 e5
          go_wp2_with fail
          have hQ5 := K6.out.set6 (.string { data := #[] }) (.string { data := inn.toArray }) (.int .i64 1) (.string { data := #[] }) (.string { data := #[] }) (.bool false)
          have hB5 := But.set6R g6 x (.string { data := #[] }) (.string { data := inn.toArray }) (.int .i64 1) (.string { data := #[] }) (.string { data := #[] }) (.bool false)
          have t0 := hQ5.cell 0
          have t1 := hQ5.cell 1
          have t2 := hQ5.cell 2
          have t3 := hQ5.cell 3
          have t4 := hQ5.cell 4
          have t5 := hQ5.cell 5
          simp only [List.getElem?_toArray, List.getElem?_cons_zero, List.getElem?_cons_succ] at t0 t1 t2 t3 t4 t5
          have HBF := Lib.hid (HB.out.trans (hB5.below (by rw [HG6.out]; exact Nat.le_refl _) HB.out.size))
          generalize (((((x.setCell ⟨g6, 0, none⟩ (.string { data := #[] })).setCell ⟨g6, 1, none⟩ (.string { data := inn.toArray })).setCell ⟨g6, 2, none⟩ (.int .i64 1)).setCell ⟨g6, 3, none⟩ (.string { data := #[] })).setCell ⟨g6, 4, none⟩ (.string { data := #[] })).setCell ⟨g6, 5, none⟩ (.bool false) = wf at *
          refine bodyPost_ret (v := .tuple #[.agg #[(.string { data := #[] }), (.string { data := inn.toArray }), (.int .i64 1), (.string { data := #[] }), (.string { data := #[] }), (.bool false)], .bool true]) (by simp [results, Tryd.results23, go_sem, t0, t1, t2, t3, t4, t5]) rfl ⟨by rw [HO.out]; rfl, HBF.out⟩
        by_cases h9 : name = [114, 101, 97, 100]
        · have n0 : (nm.toList == [101, 99, 104, 111]) = false := (HNM.out [101, 99, 104, 111]).trans (decide_eq_false h0)
          have n1 : (nm.toList == [112, 117, 116]) = false := (HNM.out [112, 117, 116]).trans (decide_eq_false h1)
          have n2 : (nm.toList == [99, 97, 116]) = false := (HNM.out [99, 97, 116]).trans (decide_eq_false h2)
          have n3 : (nm.toList == [116, 114, 117, 101]) = false := (HNM.out [116, 114, 117, 101]).trans (decide_eq_false h3)
          have n4 : (nm.toList == [102, 97, 108, 115, 101]) = false := (HNM.out [102, 97, 108, 115, 101]).trans (decide_eq_false h4)
          have n5 : (nm.toList == [101, 113]) = false := (HNM.out [101, 113]).trans (decide_eq_false h5)
          have n6 : (nm.toList == [108, 105, 107, 101]) = false := (HNM.out [108, 105, 107, 101]).trans (decide_eq_false h6)
          have n7 : (nm.toList == [108, 101, 115, 115]) = false := (HNM.out [108, 101, 115, 115]).trans (decide_eq_false h7)
          have n8 : (nm.toList == [97, 100, 100]) = false := (HNM.out [97, 100, 100]).trans (decide_eq_false h8)
          have n9 : (nm.toList == [114, 101, 97, 100]) = true := (HNM.out [114, 101, 97, 100]).trans (decide_eq_true h9)
          have HO := Lib.hid (show doO name inn L = some (readA inn L (oc0 inn)) by rw [h9]; rfl)
          clear h0 h1 h2 h3 h4 h5 h6 h7 h8 h9
          by_cases hk1 : k = 1
          · obtain ⟨a, hat⟩ : ∃ a, L = [a] := List.length_eq_one_iff.1 (by rw [← HM.out]; exact hk1)
            subst hk1
            subst hat
            obtain ⟨gb, go, hA, e0⟩ := (HRD.out _ HB.out).str4 (k := 0) (by simp)
            subst hA
            simp only [List.getElem_cons_zero, Nat.add_zero] at e0
            have HNA := Lib.hid (fun W => name5_any a W (Nat.le_trans (HSZ.out a (by simp)) (by decide)))
            have HRA := Lib.hid (show readA inn [a] (oc0 inn) = if nameB a && !inn.isEmpty then { oc0 inn with name := a, value := (cutN inn).1, rest := (cutN inn).2 } else { oc0 inn with status := 1 } from rfl)
            rw [HRA.out] at HO
            generalize nameB a = nb at *
            clear HRA
            go_wp2_with fail
            refine (HNA.out _).mono ?_
            rintro e x2 ⟨rfl, hx2⟩
            obtain rfl : x = x2 := hx2.symm
            cases nb with
            | false =>
              replace HO := Lib.hid (show doO name inn [a] = some ⟨[], inn, 1, [], [], false⟩ by rw [HO.out]; rfl)
              have d0 := ((K8.out)).cell 0
              have d1 := ((K8.out)).cell 1
              have d2 := ((K8.out)).cell 2
              have d3 := ((K8.out)).cell 3
              have d4 := ((K8.out)).cell 4
              have d5 := ((K8.out)).cell 5
              have f0 := ((K8.out)).frozen 0
              have f1 := ((K8.out)).frozen 1
              have f2 := ((K8.out)).frozen 2
              have f3 := ((K8.out)).frozen 3
              have f4 := ((K8.out)).frozen 4
              have f5 := ((K8.out)).frozen 5
              simp only [List.getElem?_toArray, List.getElem?_cons_zero, List.getElem?_cons_succ] at d0 d1 d2 d3 d4 d5
              go_upto_region 54 with (fail)
              have q8 := K8.out.set 2 (.int .i64 1)
              simp only [List.setIfInBounds_toArray, List.set_cons_zero, List.set_cons_succ] at q8
              have q6 := (But.set (B := g8) x 2 (.int .i64 1)).blk K6.out HNE.out
              have qb := HB.out.trans ((But.set (B := g8) x 2 (.int .i64 1)).below HG8.out HB.out.size)
              replace K8 := Lib.hid q8
              replace K6 := Lib.hid q6
              replace HB := Lib.hid qb
              clear q8 q6 qb
              try clear d0 d1 d2 d3 d4 d5 f0 f1 f2 f3 f4 f5
              generalize x.setCell ⟨g8, 2, none⟩ (.int .i64 1) = x at *
              have d0 := ((K8.out)).cell 0
              have d1 := ((K8.out)).cell 1
              have d2 := ((K8.out)).cell 2
              have d3 := ((K8.out)).cell 3
              have d4 := ((K8.out)).cell 4
              have d5 := ((K8.out)).cell 5
              have f0 := ((K8.out)).frozen 0
              have f1 := ((K8.out)).frozen 1
              have f2 := ((K8.out)).frozen 2
              have f3 := ((K8.out)).frozen 3
              have f4 := ((K8.out)).frozen 4
              have f5 := ((K8.out)).frozen 5
              simp only [List.getElem?_toArray, List.getElem?_cons_zero, List.getElem?_cons_succ] at d0 d1 d2 d3 d4 d5
              clear f0 f1 f2 f3 f4 f5
              have e0 := K6.out.cell 0
              have e1 := K6.out.cell 1
              have e2 := K6.out.cell 2
              have e3 := K6.out.cell 3
              have e4 := K6.out.cell 4
              have e5 := K6.out.cell 5
              have f0 := K6.out.frozen 0
              have f1 := K6.out.frozen 1
              have f2 := K6.out.frozen 2
              have f3 := K6.out.frozen 3
              have f4 := K6.out.frozen 4
              have f5 := K6.out.frozen 5
              simp only [List.getElem?_toArray, List.getElem?_cons_zero, List.getElem?_cons_succ] at e0 e1 e2 e3 e4 e5
              go_wp2_with fail
              have hQ5 := K6.out.set6 (.string { data := #[] }) (.string { data := inn.toArray }) (.int .i64 1) (.string { data := #[] }) (.string { data := #[] }) (.bool false)
              have hB5 := But.set6R g6 x (.string { data := #[] }) (.string { data := inn.toArray }) (.int .i64 1) (.string { data := #[] }) (.string { data := #[] }) (.bool false)
              have t0 := hQ5.cell 0
              have t1 := hQ5.cell 1
              have t2 := hQ5.cell 2
              have t3 := hQ5.cell 3
              have t4 := hQ5.cell 4
              have t5 := hQ5.cell 5
              simp only [List.getElem?_toArray, List.getElem?_cons_zero, List.getElem?_cons_succ] at t0 t1 t2 t3 t4 t5
              have HBF := Lib.hid (HB.out.trans (hB5.below (by rw [HG6.out]; exact Nat.le_refl _) HB.out.size))
              generalize (((((x.setCell ⟨g6, 0, none⟩ (.string { data := #[] })).setCell ⟨g6, 1, none⟩ (.string { data := inn.toArray })).setCell ⟨g6, 2, none⟩ (.int .i64 1)).setCell ⟨g6, 3, none⟩ (.string { data := #[] })).setCell ⟨g6, 4, none⟩ (.string { data := #[] })).setCell ⟨g6, 5, none⟩ (.bool false) = wf at *
              refine bodyPost_ret (v := .tuple #[.agg #[(.string { data := #[] }), (.string { data := inn.toArray }), (.int .i64 1), (.string { data := #[] }), (.string { data := #[] }), (.bool false)], .bool true]) (by simp [results, Tryd.results23, go_sem, t0, t1, t2, t3, t4, t5]) rfl ⟨by rw [HO.out]; rfl, HBF.out⟩
            | true =>
              by_cases hinn : inn = []
              · subst hinn
                replace HO := Lib.hid (show doO name [] [a] = some ⟨[], [], 1, [], [], false⟩ by rw [HO.out]; rfl)
                have d0 := ((K8.out)).cell 0
                have d1 := ((K8.out)).cell 1
                have d2 := ((K8.out)).cell 2
                have d3 := ((K8.out)).cell 3
                have d4 := ((K8.out)).cell 4
                have d5 := ((K8.out)).cell 5
                have f0 := ((K8.out)).frozen 0
                have f1 := ((K8.out)).frozen 1
                have f2 := ((K8.out)).frozen 2
                have f3 := ((K8.out)).frozen 3
                have f4 := ((K8.out)).frozen 4
                have f5 := ((K8.out)).frozen 5
                simp only [List.getElem?_toArray, List.getElem?_cons_zero, List.getElem?_cons_succ] at d0 d1 d2 d3 d4 d5
                go_upto_region 54 with (fail)
                have q8 := K8.out.set 2 (.int .i64 1)
                simp only [List.setIfInBounds_toArray, List.set_cons_zero, List.set_cons_succ] at q8
                have q6 := (But.set (B := g8) x 2 (.int .i64 1)).blk K6.out HNE.out
                have qb := HB.out.trans ((But.set (B := g8) x 2 (.int .i64 1)).below HG8.out HB.out.size)
                replace K8 := Lib.hid q8
                replace K6 := Lib.hid q6
                replace HB := Lib.hid qb
                clear q8 q6 qb
                try clear d0 d1 d2 d3 d4 d5 f0 f1 f2 f3 f4 f5
                generalize x.setCell ⟨g8, 2, none⟩ (.int .i64 1) = x at *
                have d0 := ((K8.out)).cell 0
                have d1 := ((K8.out)).cell 1
                have d2 := ((K8.out)).cell 2
                have d3 := ((K8.out)).cell 3
                have d4 := ((K8.out)).cell 4
                have d5 := ((K8.out)).cell 5
                have f0 := ((K8.out)).frozen 0
                have f1 := ((K8.out)).frozen 1
                have f2 := ((K8.out)).frozen 2
                have f3 := ((K8.out)).frozen 3
                have f4 := ((K8.out)).frozen 4
                have f5 := ((K8.out)).frozen 5
                simp only [List.getElem?_toArray, List.getElem?_cons_zero, List.getElem?_cons_succ] at d0 d1 d2 d3 d4 d5
                clear f0 f1 f2 f3 f4 f5
                have e0 := K6.out.cell 0
                have e1 := K6.out.cell 1
                have e2 := K6.out.cell 2
                have e3 := K6.out.cell 3
                have e4 := K6.out.cell 4
                have e5 := K6.out.cell 5
                have f0 := K6.out.frozen 0
                have f1 := K6.out.frozen 1
                have f2 := K6.out.frozen 2
                have f3 := K6.out.frozen 3
                have f4 := K6.out.frozen 4
                have f5 := K6.out.frozen 5
                simp only [List.getElem?_toArray, List.getElem?_cons_zero, List.getElem?_cons_succ] at e0 e1 e2 e3 e4 e5
                go_wp2_with fail
                have hQ5 := K6.out.set6 (.string { data := #[] }) (.string { data := #[] }) (.int .i64 1) (.string { data := #[] }) (.string { data := #[] }) (.bool false)
                have hB5 := But.set6R g6 x (.string { data := #[] }) (.string { data := #[] }) (.int .i64 1) (.string { data := #[] }) (.string { data := #[] }) (.bool false)
                have t0 := hQ5.cell 0
                have t1 := hQ5.cell 1
                have t2 := hQ5.cell 2
                have t3 := hQ5.cell 3
                have t4 := hQ5.cell 4
                have t5 := hQ5.cell 5
                simp only [List.getElem?_toArray, List.getElem?_cons_zero, List.getElem?_cons_succ] at t0 t1 t2 t3 t4 t5
                have HBF := Lib.hid (HB.out.trans (hB5.below (by rw [HG6.out]; exact Nat.le_refl _) HB.out.size))
                generalize (((((x.setCell ⟨g6, 0, none⟩ (.string { data := #[] })).setCell ⟨g6, 1, none⟩ (.string { data := #[] })).setCell ⟨g6, 2, none⟩ (.int .i64 1)).setCell ⟨g6, 3, none⟩ (.string { data := #[] })).setCell ⟨g6, 4, none⟩ (.string { data := #[] })).setCell ⟨g6, 5, none⟩ (.bool false) = wf at *
                refine bodyPost_ret (v := .tuple #[.agg #[(.string { data := #[] }), (.string { data := #[] }), (.int .i64 1), (.string { data := #[] }), (.string { data := #[] }), (.bool false)], .bool true]) (by simp [results, Tryd.results23, go_sem, t0, t1, t2, t3, t4, t5]) rfl ⟨by rw [HO.out]; rfl, HBF.out⟩
              · have hn1 : (inn == []) = false := by rw [beq_eq_false_iff_ne]; exact hinn
                have HNE2 := Lib.hid (show inn.isEmpty = false by rw [List.isEmpty_eq_false_iff]; exact hinn)
                replace HO := Lib.hid (show doO name inn [a] = some ⟨[], (cutN inn).2, 0, a, (cutN inn).1, false⟩ by rw [HO.out, HNE2.out]; rfl)
                clear hinn
                obtain ⟨n, hnn⟩ : ∃ n, n = inn.length := ⟨_, rfl⟩
                have HNN := Lib.hid hnn
                have hnz : (⟨inn.toArray⟩ : ByteArray).size = n := by rw [hnn]; show inn.toArray.size = _; rw [List.size_toArray]
                have hn9 : n ≤ 1000000 := by omega
                clear hnn
                have HC0 := Lib.hid (show cutN inn = (inn.take 0 ++ (cutN (inn.drop 0)).1, (cutN (inn.drop 0)).2) by rw [List.take_zero, List.drop_zero, List.nil_append])
                go_upto_region 41 with (fail)
                go_loopw [14] (fun i wr => ∃ k : Nat, k ≤ n ∧ i = .int .i64 k ∧ x = wr ∧ Hid (cutN inn = (inn.take k ++ (cutN (inn.drop k)).1, (cutN (inn.drop k)).2))) (fun i _ => n - (intOf i).toNat)
                case atStart => exact ⟨0, Nat.zero_le _, rfl, rfl, HC0⟩
                case round =>
                  obtain ⟨j, hj, rfl, hwr, HC⟩ := hrel
                  subst hwr
                  by_cases hlt : j < n
                  · have hlt' : j < inn.length := by rw [← HNN.out]; exact hlt
                    obtain ⟨ch, hch⟩ : ∃ ch, ch = inn[j] := ⟨_, rfl⟩
                    have hd' : ∀ h, ({ data := inn.toArray } : ByteArray)[j]'h = ch := fun h => by rw [hch]; rfl
                    have HDR := Lib.hid (show inn.drop j = ch :: inn.drop (j + 1) by rw [hch]; exact List.drop_eq_getElem_cons hlt')
                    have HTK := Lib.hid (show inn.take (j + 1) = inn.take j ++ [ch] by rw [hch]; exact List.take_succ_eq_append_getElem hlt')
                    by_cases h10 : ch = 10
                    · have HV := Lib.hid (show (cutN inn).1 = inn.take j ∧ (cutN inn).2 = inn.drop (j + 1) by
                        rw [HC.out, HDR.out, cutN, if_pos h10]
                        exact ⟨List.append_nil _, rfl⟩)
                      subst h10
                      have hmn : min ((j : Int) + 1) (n : Int) = ((j + 1 : Nat) : Int) := by omega
                      clear hch hlt' HDR HTK HC
                      go_upto_region 43 with (fail)
                      have d0 := ((K8.out)).cell 0
                      have d1 := ((K8.out)).cell 1
                      have d2 := ((K8.out)).cell 2
                      have d3 := ((K8.out)).cell 3
                      have d4 := ((K8.out)).cell 4
                      have d5 := ((K8.out)).cell 5
                      have f0 := ((K8.out)).frozen 0
                      have f1 := ((K8.out)).frozen 1
                      have f2 := ((K8.out)).frozen 2
                      have f3 := ((K8.out)).frozen 3
                      have f4 := ((K8.out)).frozen 4
                      have f5 := ((K8.out)).frozen 5
                      simp only [List.getElem?_toArray, List.getElem?_cons_zero, List.getElem?_cons_succ] at d0 d1 d2 d3 d4 d5
                      go_upto_region 44 with (fail)
                      have q8 := K8.out.set 3 (.string ⟨a.toArray⟩)
                      simp only [List.setIfInBounds_toArray, List.set_cons_zero, List.set_cons_succ] at q8
                      have q6 := (But.set (B := g8) x 3 (.string ⟨a.toArray⟩)).blk K6.out HNE.out
                      have qb := HB.out.trans ((But.set (B := g8) x 3 (.string ⟨a.toArray⟩)).below HG8.out HB.out.size)
                      replace K8 := Lib.hid q8
                      replace K6 := Lib.hid q6
                      replace HB := Lib.hid qb
                      clear q8 q6 qb
                      try clear d0 d1 d2 d3 d4 d5 f0 f1 f2 f3 f4 f5
                      generalize x.setCell ⟨g8, 3, none⟩ (.string ⟨a.toArray⟩) = x at *
                      clear e0
                      have d0 := ((K8.out)).cell 0
                      have d1 := ((K8.out)).cell 1
                      have d2 := ((K8.out)).cell 2
                      have d3 := ((K8.out)).cell 3
                      have d4 := ((K8.out)).cell 4
                      have d5 := ((K8.out)).cell 5
                      have f0 := ((K8.out)).frozen 0
                      have f1 := ((K8.out)).frozen 1
                      have f2 := ((K8.out)).frozen 2
                      have f3 := ((K8.out)).frozen 3
                      have f4 := ((K8.out)).frozen 4
                      have f5 := ((K8.out)).frozen 5
                      simp only [List.getElem?_toArray, List.getElem?_cons_zero, List.getElem?_cons_succ] at d0 d1 d2 d3 d4 d5
                      have hx1 : ({ data := inn.toArray } : ByteArray).extract 0 j = ⟨(inn.take j).toArray⟩ := by rw [extract_cellR]; rfl
                      go_upto_region 45 with (fail)
                      have q8 := K8.out.set 4 (.string ⟨(inn.take j).toArray⟩)
                      simp only [List.setIfInBounds_toArray, List.set_cons_zero, List.set_cons_succ] at q8
                      have q6 := (But.set (B := g8) x 4 (.string ⟨(inn.take j).toArray⟩)).blk K6.out HNE.out
                      have qb := HB.out.trans ((But.set (B := g8) x 4 (.string ⟨(inn.take j).toArray⟩)).below HG8.out HB.out.size)
                      replace K8 := Lib.hid q8
                      replace K6 := Lib.hid q6
                      replace HB := Lib.hid qb
                      clear q8 q6 qb
                      try clear d0 d1 d2 d3 d4 d5 f0 f1 f2 f3 f4 f5
                      generalize x.setCell ⟨g8, 4, none⟩ (.string ⟨(inn.take j).toArray⟩) = x at *
                      have d0 := ((K8.out)).cell 0
                      have d1 := ((K8.out)).cell 1
                      have d2 := ((K8.out)).cell 2
                      have d3 := ((K8.out)).cell 3
                      have d4 := ((K8.out)).cell 4
                      have d5 := ((K8.out)).cell 5
                      have f0 := ((K8.out)).frozen 0
                      have f1 := ((K8.out)).frozen 1
                      have f2 := ((K8.out)).frozen 2
                      have f3 := ((K8.out)).frozen 3
                      have f4 := ((K8.out)).frozen 4
                      have f5 := ((K8.out)).frozen 5
                      simp only [List.getElem?_toArray, List.getElem?_cons_zero, List.getElem?_cons_succ] at d0 d1 d2 d3 d4 d5
                      have hx2 : ({ data := inn.toArray } : ByteArray).extract (j + 1) n = ⟨(inn.drop (j + 1)).toArray⟩ := by rw [extract_cellR, List.take_of_length_le (by rw [← HNN.out]; exact Nat.le_refl _)]
                      go_upto_region 52 with (fail)
                      have q8 := K8.out.set 1 (.string ⟨(inn.drop (j + 1)).toArray⟩)
                      simp only [List.setIfInBounds_toArray, List.set_cons_zero, List.set_cons_succ] at q8
                      have q6 := (But.set (B := g8) x 1 (.string ⟨(inn.drop (j + 1)).toArray⟩)).blk K6.out HNE.out
                      have qb := HB.out.trans ((But.set (B := g8) x 1 (.string ⟨(inn.drop (j + 1)).toArray⟩)).below HG8.out HB.out.size)
                      replace K8 := Lib.hid q8
                      replace K6 := Lib.hid q6
                      replace HB := Lib.hid qb
                      clear q8 q6 qb
                      try clear d0 d1 d2 d3 d4 d5 f0 f1 f2 f3 f4 f5
                      generalize x.setCell ⟨g8, 1, none⟩ (.string ⟨(inn.drop (j + 1)).toArray⟩) = x at *
                      replace HO := Lib.hid (show doO name inn [a] = some ⟨[], inn.drop (j + 1), 0, a, inn.take j, false⟩ by rw [HO.out, HV.out.1, HV.out.2])
                      have d0 := ((K8.out)).cell 0
                      have d1 := ((K8.out)).cell 1
                      have d2 := ((K8.out)).cell 2
                      have d3 := ((K8.out)).cell 3
                      have d4 := ((K8.out)).cell 4
                      have d5 := ((K8.out)).cell 5
                      have f0 := ((K8.out)).frozen 0
                      have f1 := ((K8.out)).frozen 1
                      have f2 := ((K8.out)).frozen 2
                      have f3 := ((K8.out)).frozen 3
                      have f4 := ((K8.out)).frozen 4
                      have f5 := ((K8.out)).frozen 5
                      simp only [List.getElem?_toArray, List.getElem?_cons_zero, List.getElem?_cons_succ] at d0 d1 d2 d3 d4 d5
                      clear f0 f1 f2 f3 f4 f5
                      have e0 := K6.out.cell 0
                      have e1 := K6.out.cell 1
                      have e2 := K6.out.cell 2
                      have e3 := K6.out.cell 3
                      have e4 := K6.out.cell 4
                      have e5 := K6.out.cell 5
                      have f0 := K6.out.frozen 0
                      have f1 := K6.out.frozen 1
                      have f2 := K6.out.frozen 2
                      have f3 := K6.out.frozen 3
                      have f4 := K6.out.frozen 4
                      have f5 := K6.out.frozen 5
                      simp only [List.getElem?_toArray, List.getElem?_cons_zero, List.getElem?_cons_succ] at e0 e1 e2 e3 e4 e5
                      go_wp2_with fail
                      have hQ5 := K6.out.set6 (.string { data := #[] }) (.string ⟨(inn.drop (j + 1)).toArray⟩) (.int .i64 0) (.string ⟨a.toArray⟩) (.string ⟨(inn.take j).toArray⟩) (.bool false)
                      have hB5 := But.set6R g6 x (.string { data := #[] }) (.string ⟨(inn.drop (j + 1)).toArray⟩) (.int .i64 0) (.string ⟨a.toArray⟩) (.string ⟨(inn.take j).toArray⟩) (.bool false)
                      have t0 := hQ5.cell 0
                      have t1 := hQ5.cell 1
                      have t2 := hQ5.cell 2
                      have t3 := hQ5.cell 3
                      have t4 := hQ5.cell 4
                      have t5 := hQ5.cell 5
                      simp only [List.getElem?_toArray, List.getElem?_cons_zero, List.getElem?_cons_succ] at t0 t1 t2 t3 t4 t5
                      have HBF := Lib.hid (HB.out.trans (hB5.below (by rw [HG6.out]; exact Nat.le_refl _) HB.out.size))
                      generalize (((((x.setCell ⟨g6, 0, none⟩ (.string { data := #[] })).setCell ⟨g6, 1, none⟩ (.string ⟨(inn.drop (j + 1)).toArray⟩)).setCell ⟨g6, 2, none⟩ (.int .i64 0)).setCell ⟨g6, 3, none⟩ (.string ⟨a.toArray⟩)).setCell ⟨g6, 4, none⟩ (.string ⟨(inn.take j).toArray⟩)).setCell ⟨g6, 5, none⟩ (.bool false) = wf at *
                      refine bodyPost_ret (v := .tuple #[.agg #[(.string { data := #[] }), (.string ⟨(inn.drop (j + 1)).toArray⟩), (.int .i64 0), (.string ⟨a.toArray⟩), (.string ⟨(inn.take j).toArray⟩), (.bool false)], .bool true]) (by simp [results, Tryd.results23, go_sem, t0, t1, t2, t3, t4, t5]) rfl ⟨by rw [HO.out]; rfl, HBF.out⟩
                    · have hne10 : ((ch.toNat : Int) == 10) = false := by
                        rw [beq_eq_false_iff_ne]
                        intro h
                        apply h10
                        apply UInt8.toNat.inj
                        show ch.toNat = 10
                        omega
                      have HC2 := Lib.hid (show cutN inn = (inn.take (j + 1) ++ (cutN (inn.drop (j + 1))).1, (cutN (inn.drop (j + 1))).2) by
                        rw [HC.out, HDR.out, cutN, if_neg h10, HTK.out, List.append_assoc]
                        rfl)
                      clear hch hlt' HDR HTK HC h10
                      go_wp2_with fail
                      go_roundw
                      case rel => exact ⟨j + 1, by omega, by go_num, trivial, HC2⟩
                      case measure => simp [intOf]; omega
                  · obtain rfl : j = n := by omega
                    have HV := Lib.hid (show (cutN inn).1 = inn.take j ∧ (cutN inn).2 = inn.drop (j + 1) by
                      have h1 : inn.drop j = [] := List.drop_of_length_le (by rw [← HNN.out]; exact Nat.le_refl _)
                      have h2 : inn.drop (j + 1) = [] := List.drop_of_length_le (by rw [← HNN.out]; exact Nat.le_succ _)
                      rw [HC.out, h1, h2]
                      exact ⟨List.append_nil _, rfl⟩)
                    have hmn : min ((j : Int) + 1) (j : Int) = (j : Int) := by omega
                    clear HC
                    go_upto_region 43 with (fail)
                    have d0 := ((K8.out)).cell 0
                    have d1 := ((K8.out)).cell 1
                    have d2 := ((K8.out)).cell 2
                    have d3 := ((K8.out)).cell 3
                    have d4 := ((K8.out)).cell 4
                    have d5 := ((K8.out)).cell 5
                    have f0 := ((K8.out)).frozen 0
                    have f1 := ((K8.out)).frozen 1
                    have f2 := ((K8.out)).frozen 2
                    have f3 := ((K8.out)).frozen 3
                    have f4 := ((K8.out)).frozen 4
                    have f5 := ((K8.out)).frozen 5
                    simp only [List.getElem?_toArray, List.getElem?_cons_zero, List.getElem?_cons_succ] at d0 d1 d2 d3 d4 d5
                    go_upto_region 44 with (fail)
                    have q8 := K8.out.set 3 (.string ⟨a.toArray⟩)
                    simp only [List.setIfInBounds_toArray, List.set_cons_zero, List.set_cons_succ] at q8
                    have q6 := (But.set (B := g8) x 3 (.string ⟨a.toArray⟩)).blk K6.out HNE.out
                    have qb := HB.out.trans ((But.set (B := g8) x 3 (.string ⟨a.toArray⟩)).below HG8.out HB.out.size)
                    replace K8 := Lib.hid q8
                    replace K6 := Lib.hid q6
                    replace HB := Lib.hid qb
                    clear q8 q6 qb
                    try clear d0 d1 d2 d3 d4 d5 f0 f1 f2 f3 f4 f5
                    generalize x.setCell ⟨g8, 3, none⟩ (.string ⟨a.toArray⟩) = x at *
                    clear e0
                    have d0 := ((K8.out)).cell 0
                    have d1 := ((K8.out)).cell 1
                    have d2 := ((K8.out)).cell 2
                    have d3 := ((K8.out)).cell 3
                    have d4 := ((K8.out)).cell 4
                    have d5 := ((K8.out)).cell 5
                    have f0 := ((K8.out)).frozen 0
                    have f1 := ((K8.out)).frozen 1
                    have f2 := ((K8.out)).frozen 2
                    have f3 := ((K8.out)).frozen 3
                    have f4 := ((K8.out)).frozen 4
                    have f5 := ((K8.out)).frozen 5
                    simp only [List.getElem?_toArray, List.getElem?_cons_zero, List.getElem?_cons_succ] at d0 d1 d2 d3 d4 d5
                    have hx1 : ({ data := inn.toArray } : ByteArray).extract 0 j = ⟨(inn.take j).toArray⟩ := by rw [extract_cellR]; rfl
                    go_upto_region 45 with (fail)
                    have q8 := K8.out.set 4 (.string ⟨(inn.take j).toArray⟩)
                    simp only [List.setIfInBounds_toArray, List.set_cons_zero, List.set_cons_succ] at q8
                    have q6 := (But.set (B := g8) x 4 (.string ⟨(inn.take j).toArray⟩)).blk K6.out HNE.out
                    have qb := HB.out.trans ((But.set (B := g8) x 4 (.string ⟨(inn.take j).toArray⟩)).below HG8.out HB.out.size)
                    replace K8 := Lib.hid q8
                    replace K6 := Lib.hid q6
                    replace HB := Lib.hid qb
                    clear q8 q6 qb
                    try clear d0 d1 d2 d3 d4 d5 f0 f1 f2 f3 f4 f5
                    generalize x.setCell ⟨g8, 4, none⟩ (.string ⟨(inn.take j).toArray⟩) = x at *
                    have d0 := ((K8.out)).cell 0
                    have d1 := ((K8.out)).cell 1
                    have d2 := ((K8.out)).cell 2
                    have d3 := ((K8.out)).cell 3
                    have d4 := ((K8.out)).cell 4
                    have d5 := ((K8.out)).cell 5
                    have f0 := ((K8.out)).frozen 0
                    have f1 := ((K8.out)).frozen 1
                    have f2 := ((K8.out)).frozen 2
                    have f3 := ((K8.out)).frozen 3
                    have f4 := ((K8.out)).frozen 4
                    have f5 := ((K8.out)).frozen 5
                    simp only [List.getElem?_toArray, List.getElem?_cons_zero, List.getElem?_cons_succ] at d0 d1 d2 d3 d4 d5
                    have hx2 : ({ data := inn.toArray } : ByteArray).extract j j = ⟨(inn.drop (j + 1)).toArray⟩ := by rw [extract_cellR, show inn.drop (j + 1) = [] from List.drop_of_length_le (by rw [← HNN.out]; exact Nat.le_succ _), List.drop_of_length_le (by rw [List.length_take]; omega)]
                    go_upto_region 52 with (fail)
                    have q8 := K8.out.set 1 (.string ByteArray.empty)
                    simp only [List.setIfInBounds_toArray, List.set_cons_zero, List.set_cons_succ] at q8
                    have q6 := (But.set (B := g8) x 1 (.string ByteArray.empty)).blk K6.out HNE.out
                    have qb := HB.out.trans ((But.set (B := g8) x 1 (.string ByteArray.empty)).below HG8.out HB.out.size)
                    replace K8 := Lib.hid q8
                    replace K6 := Lib.hid q6
                    replace HB := Lib.hid qb
                    clear q8 q6 qb
                    try clear d0 d1 d2 d3 d4 d5 f0 f1 f2 f3 f4 f5
                    generalize x.setCell ⟨g8, 1, none⟩ (.string ByteArray.empty) = x at *
                    replace HO := Lib.hid (show doO name inn [a] = some ⟨[], [], 0, a, inn.take j, false⟩ by rw [HO.out, HV.out.1, HV.out.2, show inn.drop (j + 1) = [] from List.drop_of_length_le (by rw [← HNN.out]; exact Nat.le_succ _)])
                    have d0 := ((K8.out)).cell 0
                    have d1 := ((K8.out)).cell 1
                    have d2 := ((K8.out)).cell 2
                    have d3 := ((K8.out)).cell 3
                    have d4 := ((K8.out)).cell 4
                    have d5 := ((K8.out)).cell 5
                    have f0 := ((K8.out)).frozen 0
                    have f1 := ((K8.out)).frozen 1
                    have f2 := ((K8.out)).frozen 2
                    have f3 := ((K8.out)).frozen 3
                    have f4 := ((K8.out)).frozen 4
                    have f5 := ((K8.out)).frozen 5
                    simp only [List.getElem?_toArray, List.getElem?_cons_zero, List.getElem?_cons_succ] at d0 d1 d2 d3 d4 d5
                    clear f0 f1 f2 f3 f4 f5
                    have e0 := K6.out.cell 0
                    have e1 := K6.out.cell 1
                    have e2 := K6.out.cell 2
                    have e3 := K6.out.cell 3
                    have e4 := K6.out.cell 4
                    have e5 := K6.out.cell 5
                    have f0 := K6.out.frozen 0
                    have f1 := K6.out.frozen 1
                    have f2 := K6.out.frozen 2
                    have f3 := K6.out.frozen 3
                    have f4 := K6.out.frozen 4
                    have f5 := K6.out.frozen 5
                    simp only [List.getElem?_toArray, List.getElem?_cons_zero, List.getElem?_cons_succ] at e0 e1 e2 e3 e4 e5
                    go_wp2_with fail
                    have hQ5 := K6.out.set6 (.string { data := #[] }) (.string ByteArray.empty) (.int .i64 0) (.string ⟨a.toArray⟩) (.string ⟨(inn.take j).toArray⟩) (.bool false)
                    have hB5 := But.set6R g6 x (.string { data := #[] }) (.string ByteArray.empty) (.int .i64 0) (.string ⟨a.toArray⟩) (.string ⟨(inn.take j).toArray⟩) (.bool false)
                    have t0 := hQ5.cell 0
                    have t1 := hQ5.cell 1
                    have t2 := hQ5.cell 2
                    have t3 := hQ5.cell 3
                    have t4 := hQ5.cell 4
                    have t5 := hQ5.cell 5
                    simp only [List.getElem?_toArray, List.getElem?_cons_zero, List.getElem?_cons_succ] at t0 t1 t2 t3 t4 t5
                    have HBF := Lib.hid (HB.out.trans (hB5.below (by rw [HG6.out]; exact Nat.le_refl _) HB.out.size))
                    generalize (((((x.setCell ⟨g6, 0, none⟩ (.string { data := #[] })).setCell ⟨g6, 1, none⟩ (.string ByteArray.empty)).setCell ⟨g6, 2, none⟩ (.int .i64 0)).setCell ⟨g6, 3, none⟩ (.string ⟨a.toArray⟩)).setCell ⟨g6, 4, none⟩ (.string ⟨(inn.take j).toArray⟩)).setCell ⟨g6, 5, none⟩ (.bool false) = wf at *
                    refine bodyPost_ret (v := .tuple #[.agg #[(.string { data := #[] }), (.string ByteArray.empty), (.int .i64 0), (.string ⟨a.toArray⟩), (.string ⟨(inn.take j).toArray⟩), (.bool false)], .bool true]) (by simp [results, Tryd.results23, go_sem, t0, t1, t2, t3, t4, t5]) rfl ⟨by rw [HO.out]; rfl, HBF.out⟩
          · have hk1' : ((k : Int) == 1) = false := by rw [beq_eq_false_iff_ne]; omega
            replace HO := Lib.hid (show doO name inn L = some ⟨[], inn, 1, [], [], false⟩ by
              rw [HO.out]
              match L, HM.out, hk1, h2 with
              | [], _, _, _ => rfl
              | [x], h, h', _ => exact absurd h h'
              | _ :: _ :: _, _, _, _ => rfl)
            have d0 := ((K8.out)).cell 0
            have d1 := ((K8.out)).cell 1
            have d2 := ((K8.out)).cell 2
            have d3 := ((K8.out)).cell 3
            have d4 := ((K8.out)).cell 4
            have d5 := ((K8.out)).cell 5
            have f0 := ((K8.out)).frozen 0
            have f1 := ((K8.out)).frozen 1
            have f2 := ((K8.out)).frozen 2
            have f3 := ((K8.out)).frozen 3
            have f4 := ((K8.out)).frozen 4
            have f5 := ((K8.out)).frozen 5
            simp only [List.getElem?_toArray, List.getElem?_cons_zero, List.getElem?_cons_succ] at d0 d1 d2 d3 d4 d5
            go_upto_region 54 with (fail)
            have q8 := K8.out.set 2 (.int .i64 1)
            simp only [List.setIfInBounds_toArray, List.set_cons_zero, List.set_cons_succ] at q8
            have q6 := (But.set (B := g8) x 2 (.int .i64 1)).blk K6.out HNE.out
            have qb := HB.out.trans ((But.set (B := g8) x 2 (.int .i64 1)).below HG8.out HB.out.size)
            replace K8 := Lib.hid q8
            replace K6 := Lib.hid q6
            replace HB := Lib.hid qb
            clear q8 q6 qb
            try clear d0 d1 d2 d3 d4 d5 f0 f1 f2 f3 f4 f5
            generalize x.setCell ⟨g8, 2, none⟩ (.int .i64 1) = x at *
            have d0 := ((K8.out)).cell 0
            have d1 := ((K8.out)).cell 1
            have d2 := ((K8.out)).cell 2
            have d3 := ((K8.out)).cell 3
            have d4 := ((K8.out)).cell 4
            have d5 := ((K8.out)).cell 5
            have f0 := ((K8.out)).frozen 0
            have f1 := ((K8.out)).frozen 1
            have f2 := ((K8.out)).frozen 2
            have f3 := ((K8.out)).frozen 3
            have f4 := ((K8.out)).frozen 4
            have f5 := ((K8.out)).frozen 5
            simp only [List.getElem?_toArray, List.getElem?_cons_zero, List.getElem?_cons_succ] at d0 d1 d2 d3 d4 d5
            clear f0 f1 f2 f3 f4 f5
            have e0 := K6.out.cell 0
            have e1 := K6.out.cell 1
            have e2 := K6.out.cell 2
            have e3 := K6.out.cell 3
            have e4 := K6.out.cell 4
            have e5 := K6.out.cell 5
            have f0 := K6.out.frozen 0
            have f1 := K6.out.frozen 1
            have f2 := K6.out.frozen 2
            have f3 := K6.out.frozen 3
            have f4 := K6.out.frozen 4
            have f5 := K6.out.frozen 5
            simp only [List.getElem?_toArray, List.getElem?_cons_zero, List.getElem?_cons_succ] at e0 e1 e2 e3 e4 e5
            go_wp2_with fail
            have hQ5 := K6.out.set6 (.string { data := #[] }) (.string { data := inn.toArray }) (.int .i64 1) (.string { data := #[] }) (.string { data := #[] }) (.bool false)
            have hB5 := But.set6R g6 x (.string { data := #[] }) (.string { data := inn.toArray }) (.int .i64 1) (.string { data := #[] }) (.string { data := #[] }) (.bool false)
            have t0 := hQ5.cell 0
            have t1 := hQ5.cell 1
            have t2 := hQ5.cell 2
            have t3 := hQ5.cell 3
            have t4 := hQ5.cell 4
            have t5 := hQ5.cell 5
            simp only [List.getElem?_toArray, List.getElem?_cons_zero, List.getElem?_cons_succ] at t0 t1 t2 t3 t4 t5
            have HBF := Lib.hid (HB.out.trans (hB5.below (by rw [HG6.out]; exact Nat.le_refl _) HB.out.size))
            generalize (((((x.setCell ⟨g6, 0, none⟩ (.string { data := #[] })).setCell ⟨g6, 1, none⟩ (.string { data := inn.toArray })).setCell ⟨g6, 2, none⟩ (.int .i64 1)).setCell ⟨g6, 3, none⟩ (.string { data := #[] })).setCell ⟨g6, 4, none⟩ (.string { data := #[] })).setCell ⟨g6, 5, none⟩ (.bool false) = wf at *
            refine bodyPost_ret (v := .tuple #[.agg #[(.string { data := #[] }), (.string { data := inn.toArray }), (.int .i64 1), (.string { data := #[] }), (.string { data := #[] }), (.bool false)], .bool true]) (by simp [results, Tryd.results23, go_sem, t0, t1, t2, t3, t4, t5]) rfl ⟨by rw [HO.out]; rfl, HBF.out⟩
        by_cases h10 : name = [101, 120, 105, 116]
        · have n0 : (nm.toList == [101, 99, 104, 111]) = false := (HNM.out [101, 99, 104, 111]).trans (decide_eq_false h0)
          have n1 : (nm.toList == [112, 117, 116]) = false := (HNM.out [112, 117, 116]).trans (decide_eq_false h1)
          have n2 : (nm.toList == [99, 97, 116]) = false := (HNM.out [99, 97, 116]).trans (decide_eq_false h2)
          have n3 : (nm.toList == [116, 114, 117, 101]) = false := (HNM.out [116, 114, 117, 101]).trans (decide_eq_false h3)
          have n4 : (nm.toList == [102, 97, 108, 115, 101]) = false := (HNM.out [102, 97, 108, 115, 101]).trans (decide_eq_false h4)
          have n5 : (nm.toList == [101, 113]) = false := (HNM.out [101, 113]).trans (decide_eq_false h5)
          have n6 : (nm.toList == [108, 105, 107, 101]) = false := (HNM.out [108, 105, 107, 101]).trans (decide_eq_false h6)
          have n7 : (nm.toList == [108, 101, 115, 115]) = false := (HNM.out [108, 101, 115, 115]).trans (decide_eq_false h7)
          have n8 : (nm.toList == [97, 100, 100]) = false := (HNM.out [97, 100, 100]).trans (decide_eq_false h8)
          have n9 : (nm.toList == [114, 101, 97, 100]) = false := (HNM.out [114, 101, 97, 100]).trans (decide_eq_false h9)
          have n10 : (nm.toList == [101, 120, 105, 116]) = true := (HNM.out [101, 120, 105, 116]).trans (decide_eq_true h10)
          have HO := Lib.hid (show doO name inn L = some (exitA L (oc0 inn)) by rw [h10]; rfl)
          clear h0 h1 h2 h3 h4 h5 h6 h7 h8 h9 h10
          have d0 := ((K8.out)).cell 0
          have d1 := ((K8.out)).cell 1
          have d2 := ((K8.out)).cell 2
          have d3 := ((K8.out)).cell 3
          have d4 := ((K8.out)).cell 4
          have d5 := ((K8.out)).cell 5
          have f0 := ((K8.out)).frozen 0
          have f1 := ((K8.out)).frozen 1
          have f2 := ((K8.out)).frozen 2
          have f3 := ((K8.out)).frozen 3
          have f4 := ((K8.out)).frozen 4
          have f5 := ((K8.out)).frozen 5
          simp only [List.getElem?_toArray, List.getElem?_cons_zero, List.getElem?_cons_succ] at d0 d1 d2 d3 d4 d5
          go_upto_region 48 with (fail)
          have q8 := K8.out.set 5 (.bool true)
          simp only [List.setIfInBounds_toArray, List.set_cons_zero, List.set_cons_succ] at q8
          have q6 := (But.set (B := g8) x 5 (.bool true)).blk K6.out HNE.out
          have qb := HB.out.trans ((But.set (B := g8) x 5 (.bool true)).below HG8.out HB.out.size)
          replace K8 := Lib.hid q8
          replace K6 := Lib.hid q6
          replace HB := Lib.hid qb
          clear q8 q6 qb
          try clear d0 d1 d2 d3 d4 d5 f0 f1 f2 f3 f4 f5
          generalize x.setCell ⟨g8, 5, none⟩ (.bool true) = x at *
          by_cases hk0 : k = 0
          · subst hk0
            obtain rfl : L = [] := List.eq_nil_of_length_eq_zero HM.out.symm
            replace HO := Lib.hid (show doO name inn [] = some ⟨[], inn, 0, [], [], true⟩ by rw [HO.out]; rfl)
            go_upto_region 52 with (fail)
            have d0 := ((K8.out)).cell 0
            have d1 := ((K8.out)).cell 1
            have d2 := ((K8.out)).cell 2
            have d3 := ((K8.out)).cell 3
            have d4 := ((K8.out)).cell 4
            have d5 := ((K8.out)).cell 5
            have f0 := ((K8.out)).frozen 0
            have f1 := ((K8.out)).frozen 1
            have f2 := ((K8.out)).frozen 2
            have f3 := ((K8.out)).frozen 3
            have f4 := ((K8.out)).frozen 4
            have f5 := ((K8.out)).frozen 5
            simp only [List.getElem?_toArray, List.getElem?_cons_zero, List.getElem?_cons_succ] at d0 d1 d2 d3 d4 d5
            clear f0 f1 f2 f3 f4 f5
            have e0 := K6.out.cell 0
            have e1 := K6.out.cell 1
            have e2 := K6.out.cell 2
            have e3 := K6.out.cell 3
            have e4 := K6.out.cell 4
            have e5 := K6.out.cell 5
            have f0 := K6.out.frozen 0
            have f1 := K6.out.frozen 1
            have f2 := K6.out.frozen 2
            have f3 := K6.out.frozen 3
            have f4 := K6.out.frozen 4
            have f5 := K6.out.frozen 5
            simp only [List.getElem?_toArray, List.getElem?_cons_zero, List.getElem?_cons_succ] at e0 e1 e2 e3 e4 e5
            go_wp2_with fail
            have hQ5 := K6.out.set6 (.string { data := #[] }) (.string { data := inn.toArray }) (.int .i64 0) (.string { data := #[] }) (.string { data := #[] }) (.bool true)
            have hB5 := But.set6R g6 x (.string { data := #[] }) (.string { data := inn.toArray }) (.int .i64 0) (.string { data := #[] }) (.string { data := #[] }) (.bool true)
            have t0 := hQ5.cell 0
            have t1 := hQ5.cell 1
            have t2 := hQ5.cell 2
            have t3 := hQ5.cell 3
            have t4 := hQ5.cell 4
            have t5 := hQ5.cell 5
            simp only [List.getElem?_toArray, List.getElem?_cons_zero, List.getElem?_cons_succ] at t0 t1 t2 t3 t4 t5
            have HBF := Lib.hid (HB.out.trans (hB5.below (by rw [HG6.out]; exact Nat.le_refl _) HB.out.size))
            generalize (((((x.setCell ⟨g6, 0, none⟩ (.string { data := #[] })).setCell ⟨g6, 1, none⟩ (.string { data := inn.toArray })).setCell ⟨g6, 2, none⟩ (.int .i64 0)).setCell ⟨g6, 3, none⟩ (.string { data := #[] })).setCell ⟨g6, 4, none⟩ (.string { data := #[] })).setCell ⟨g6, 5, none⟩ (.bool true) = wf at *
            refine bodyPost_ret (v := .tuple #[.agg #[(.string { data := #[] }), (.string { data := inn.toArray }), (.int .i64 0), (.string { data := #[] }), (.string { data := #[] }), (.bool true)], .bool true]) (by simp [results, Tryd.results23, go_sem, t0, t1, t2, t3, t4, t5]) rfl ⟨by rw [HO.out]; rfl, HBF.out⟩
          · obtain ⟨a, t, hat⟩ : ∃ a t, L = a :: t := by
              cases hL : L with
              | nil => exfalso; apply hk0; rw [HM.out, hL]; rfl
              | cons a t => exact ⟨a, t, rfl⟩
            subst hat
            obtain ⟨gb, go, hA, e0⟩ := (HRD.out _ HB.out).str4 (k := 0) (by simp)
            subst hA
            simp only [List.getElem_cons_zero, Nat.add_zero] at e0
            have HPA := Lib.hid (fun (W : World) => refparse_any ⟨a.toArray⟩ W (by show a.toArray.size ≤ _; rw [List.size_toArray]; exact Nat.le_trans (HSZ.out a (by simp)) (by decide)))
            obtain ⟨pa, hpa⟩ : ∃ p, p = parR a := ⟨_, rfl⟩
            rw [show parR (⟨a.toArray⟩ : ByteArray).data.toList = parR a from rfl, ← hpa] at HPA
            have HPAE := Lib.hid hpa
            clear hpa
            have hk0' : decide ((0 : Int) < (k : Int)) = true := decide_eq_true (by omega)
            go_wp2_with fail
            refine (HPA.out _).mono ?_
            rintro e x2 ⟨rfl, hx2⟩
            obtain rfl : x = x2 := hx2.symm
            cases hp : (parseL a).2 with
            | false =>
              have hpa' := HPAE.out
              unfold parR at hpa'
              rw [hp] at hpa'
              simp only [Bool.false_eq_true, if_false] at hpa'
              replace HO := Lib.hid (show doO name inn (a :: t) = some ⟨[], inn, 0, [], [], true⟩ by rw [HO.out]; simp only [exitA, hp]; rfl)
              clear hp
              subst hpa'
              go_upto_region 52 with (fail)
              have d0 := ((K8.out)).cell 0
              have d1 := ((K8.out)).cell 1
              have d2 := ((K8.out)).cell 2
              have d3 := ((K8.out)).cell 3
              have d4 := ((K8.out)).cell 4
              have d5 := ((K8.out)).cell 5
              have f0 := ((K8.out)).frozen 0
              have f1 := ((K8.out)).frozen 1
              have f2 := ((K8.out)).frozen 2
              have f3 := ((K8.out)).frozen 3
              have f4 := ((K8.out)).frozen 4
              have f5 := ((K8.out)).frozen 5
              simp only [List.getElem?_toArray, List.getElem?_cons_zero, List.getElem?_cons_succ] at d0 d1 d2 d3 d4 d5
              clear f0 f1 f2 f3 f4 f5
              have e0 := K6.out.cell 0
              have e1 := K6.out.cell 1
              have e2 := K6.out.cell 2
              have e3 := K6.out.cell 3
              have e4 := K6.out.cell 4
              have e5 := K6.out.cell 5
              have f0 := K6.out.frozen 0
              have f1 := K6.out.frozen 1
              have f2 := K6.out.frozen 2
              have f3 := K6.out.frozen 3
              have f4 := K6.out.frozen 4
              have f5 := K6.out.frozen 5
              simp only [List.getElem?_toArray, List.getElem?_cons_zero, List.getElem?_cons_succ] at e0 e1 e2 e3 e4 e5
              go_wp2_with fail
              have hQ5 := K6.out.set6 (.string { data := #[] }) (.string { data := inn.toArray }) (.int .i64 0) (.string { data := #[] }) (.string { data := #[] }) (.bool true)
              have hB5 := But.set6R g6 x (.string { data := #[] }) (.string { data := inn.toArray }) (.int .i64 0) (.string { data := #[] }) (.string { data := #[] }) (.bool true)
              have t0 := hQ5.cell 0
              have t1 := hQ5.cell 1
              have t2 := hQ5.cell 2
              have t3 := hQ5.cell 3
              have t4 := hQ5.cell 4
              have t5 := hQ5.cell 5
              simp only [List.getElem?_toArray, List.getElem?_cons_zero, List.getElem?_cons_succ] at t0 t1 t2 t3 t4 t5
              have HBF := Lib.hid (HB.out.trans (hB5.below (by rw [HG6.out]; exact Nat.le_refl _) HB.out.size))
              generalize (((((x.setCell ⟨g6, 0, none⟩ (.string { data := #[] })).setCell ⟨g6, 1, none⟩ (.string { data := inn.toArray })).setCell ⟨g6, 2, none⟩ (.int .i64 0)).setCell ⟨g6, 3, none⟩ (.string { data := #[] })).setCell ⟨g6, 4, none⟩ (.string { data := #[] })).setCell ⟨g6, 5, none⟩ (.bool true) = wf at *
              refine bodyPost_ret (v := .tuple #[.agg #[(.string { data := #[] }), (.string { data := inn.toArray }), (.int .i64 0), (.string { data := #[] }), (.string { data := #[] }), (.bool true)], .bool true]) (by simp [results, Tryd.results23, go_sem, t0, t1, t2, t3, t4, t5]) rfl ⟨by rw [HO.out]; rfl, HBF.out⟩
            | true =>
              have hpa' := HPAE.out
              unfold parR at hpa'
              rw [hp] at hpa'
              simp only [if_true] at hpa'
              by_cases h255 : (parseL a).1 ≤ 255
              · replace HO := Lib.hid (show doO name inn (a :: t) = some ⟨[], inn, ((parseL a).1 : Int), [], [], true⟩ by rw [HO.out]; simp only [exitA, hp, decide_eq_true h255]; rfl)
                clear hp
                subst hpa'
                generalize (parseL a).1 = na at *
                have h255' : (na : Int) ≤ 255 := by omega
                have d0 := ((K8.out)).cell 0
                have d1 := ((K8.out)).cell 1
                have d2 := ((K8.out)).cell 2
                have d3 := ((K8.out)).cell 3
                have d4 := ((K8.out)).cell 4
                have d5 := ((K8.out)).cell 5
                have f0 := ((K8.out)).frozen 0
                have f1 := ((K8.out)).frozen 1
                have f2 := ((K8.out)).frozen 2
                have f3 := ((K8.out)).frozen 3
                have f4 := ((K8.out)).frozen 4
                have f5 := ((K8.out)).frozen 5
                simp only [List.getElem?_toArray, List.getElem?_cons_zero, List.getElem?_cons_succ] at d0 d1 d2 d3 d4 d5
                go_upto_region 52 with (fail)
                have q8 := K8.out.set 2 (.int .i64 (na : Int))
                simp only [List.setIfInBounds_toArray, List.set_cons_zero, List.set_cons_succ] at q8
                have q6 := (But.set (B := g8) x 2 (.int .i64 (na : Int))).blk K6.out HNE.out
                have qb := HB.out.trans ((But.set (B := g8) x 2 (.int .i64 (na : Int))).below HG8.out HB.out.size)
                replace K8 := Lib.hid q8
                replace K6 := Lib.hid q6
                replace HB := Lib.hid qb
                clear q8 q6 qb
                try clear d0 d1 d2 d3 d4 d5 f0 f1 f2 f3 f4 f5
                generalize x.setCell ⟨g8, 2, none⟩ (.int .i64 (na : Int)) = x at *
                have d0 := ((K8.out)).cell 0
                have d1 := ((K8.out)).cell 1
                have d2 := ((K8.out)).cell 2
                have d3 := ((K8.out)).cell 3
                have d4 := ((K8.out)).cell 4
                have d5 := ((K8.out)).cell 5
                have f0 := ((K8.out)).frozen 0
                have f1 := ((K8.out)).frozen 1
                have f2 := ((K8.out)).frozen 2
                have f3 := ((K8.out)).frozen 3
                have f4 := ((K8.out)).frozen 4
                have f5 := ((K8.out)).frozen 5
                simp only [List.getElem?_toArray, List.getElem?_cons_zero, List.getElem?_cons_succ] at d0 d1 d2 d3 d4 d5
                clear f0 f1 f2 f3 f4 f5
                have e0 := K6.out.cell 0
                have e1 := K6.out.cell 1
                have e2 := K6.out.cell 2
                have e3 := K6.out.cell 3
                have e4 := K6.out.cell 4
                have e5 := K6.out.cell 5
                have f0 := K6.out.frozen 0
                have f1 := K6.out.frozen 1
                have f2 := K6.out.frozen 2
                have f3 := K6.out.frozen 3
                have f4 := K6.out.frozen 4
                have f5 := K6.out.frozen 5
                simp only [List.getElem?_toArray, List.getElem?_cons_zero, List.getElem?_cons_succ] at e0 e1 e2 e3 e4 e5
                go_wp2_with fail
                have hQ5 := K6.out.set6 (.string { data := #[] }) (.string { data := inn.toArray }) (.int .i64 (na : Int)) (.string { data := #[] }) (.string { data := #[] }) (.bool true)
                have hB5 := But.set6R g6 x (.string { data := #[] }) (.string { data := inn.toArray }) (.int .i64 (na : Int)) (.string { data := #[] }) (.string { data := #[] }) (.bool true)
                have t0 := hQ5.cell 0
                have t1 := hQ5.cell 1
                have t2 := hQ5.cell 2
                have t3 := hQ5.cell 3
                have t4 := hQ5.cell 4
                have t5 := hQ5.cell 5
                simp only [List.getElem?_toArray, List.getElem?_cons_zero, List.getElem?_cons_succ] at t0 t1 t2 t3 t4 t5
                have HBF := Lib.hid (HB.out.trans (hB5.below (by rw [HG6.out]; exact Nat.le_refl _) HB.out.size))
                generalize (((((x.setCell ⟨g6, 0, none⟩ (.string { data := #[] })).setCell ⟨g6, 1, none⟩ (.string { data := inn.toArray })).setCell ⟨g6, 2, none⟩ (.int .i64 (na : Int))).setCell ⟨g6, 3, none⟩ (.string { data := #[] })).setCell ⟨g6, 4, none⟩ (.string { data := #[] })).setCell ⟨g6, 5, none⟩ (.bool true) = wf at *
                refine bodyPost_ret (v := .tuple #[.agg #[(.string { data := #[] }), (.string { data := inn.toArray }), (.int .i64 (na : Int)), (.string { data := #[] }), (.string { data := #[] }), (.bool true)], .bool true]) (by simp [results, Tryd.results23, go_sem, t0, t1, t2, t3, t4, t5]) rfl ⟨by rw [HO.out]; rfl, HBF.out⟩
              · replace HO := Lib.hid (show doO name inn (a :: t) = some ⟨[], inn, 0, [], [], true⟩ by rw [HO.out]; simp only [exitA, hp, decide_eq_false h255]; rfl)
                clear hp
                subst hpa'
                generalize (parseL a).1 = na at *
                have h255' : ¬ (na : Int) ≤ 255 := by omega
                go_upto_region 52 with (fail)
                have d0 := ((K8.out)).cell 0
                have d1 := ((K8.out)).cell 1
                have d2 := ((K8.out)).cell 2
                have d3 := ((K8.out)).cell 3
                have d4 := ((K8.out)).cell 4
                have d5 := ((K8.out)).cell 5
                have f0 := ((K8.out)).frozen 0
                have f1 := ((K8.out)).frozen 1
                have f2 := ((K8.out)).frozen 2
                have f3 := ((K8.out)).frozen 3
                have f4 := ((K8.out)).frozen 4
                have f5 := ((K8.out)).frozen 5
                simp only [List.getElem?_toArray, List.getElem?_cons_zero, List.getElem?_cons_succ] at d0 d1 d2 d3 d4 d5
                clear f0 f1 f2 f3 f4 f5
                have e0 := K6.out.cell 0
                have e1 := K6.out.cell 1
                have e2 := K6.out.cell 2
                have e3 := K6.out.cell 3
                have e4 := K6.out.cell 4
                have e5 := K6.out.cell 5
                have f0 := K6.out.frozen 0
                have f1 := K6.out.frozen 1
                have f2 := K6.out.frozen 2
                have f3 := K6.out.frozen 3
                have f4 := K6.out.frozen 4
                have f5 := K6.out.frozen 5
                simp only [List.getElem?_toArray, List.getElem?_cons_zero, List.getElem?_cons_succ] at e0 e1 e2 e3 e4 e5
                go_wp2_with fail
                have hQ5 := K6.out.set6 (.string { data := #[] }) (.string { data := inn.toArray }) (.int .i64 0) (.string { data := #[] }) (.string { data := #[] }) (.bool true)
                have hB5 := But.set6R g6 x (.string { data := #[] }) (.string { data := inn.toArray }) (.int .i64 0) (.string { data := #[] }) (.string { data := #[] }) (.bool true)
                have t0 := hQ5.cell 0
                have t1 := hQ5.cell 1
                have t2 := hQ5.cell 2
                have t3 := hQ5.cell 3
                have t4 := hQ5.cell 4
                have t5 := hQ5.cell 5
                simp only [List.getElem?_toArray, List.getElem?_cons_zero, List.getElem?_cons_succ] at t0 t1 t2 t3 t4 t5
                have HBF := Lib.hid (HB.out.trans (hB5.below (by rw [HG6.out]; exact Nat.le_refl _) HB.out.size))
                generalize (((((x.setCell ⟨g6, 0, none⟩ (.string { data := #[] })).setCell ⟨g6, 1, none⟩ (.string { data := inn.toArray })).setCell ⟨g6, 2, none⟩ (.int .i64 0)).setCell ⟨g6, 3, none⟩ (.string { data := #[] })).setCell ⟨g6, 4, none⟩ (.string { data := #[] })).setCell ⟨g6, 5, none⟩ (.bool true) = wf at *
                refine bodyPost_ret (v := .tuple #[.agg #[(.string { data := #[] }), (.string { data := inn.toArray }), (.int .i64 0), (.string { data := #[] }), (.string { data := #[] }), (.bool true)], .bool true]) (by simp [results, Tryd.results23, go_sem, t0, t1, t2, t3, t4, t5]) rfl ⟨by rw [HO.out]; rfl, HBF.out⟩
        have n0 : (nm.toList == [101, 99, 104, 111]) = false := (HNM.out [101, 99, 104, 111]).trans (decide_eq_false h0)
        have n1 : (nm.toList == [112, 117, 116]) = false := (HNM.out [112, 117, 116]).trans (decide_eq_false h1)
        have n2 : (nm.toList == [99, 97, 116]) = false := (HNM.out [99, 97, 116]).trans (decide_eq_false h2)
        have n3 : (nm.toList == [116, 114, 117, 101]) = false := (HNM.out [116, 114, 117, 101]).trans (decide_eq_false h3)
        have n4 : (nm.toList == [102, 97, 108, 115, 101]) = false := (HNM.out [102, 97, 108, 115, 101]).trans (decide_eq_false h4)
        have n5 : (nm.toList == [101, 113]) = false := (HNM.out [101, 113]).trans (decide_eq_false h5)
        have n6 : (nm.toList == [108, 105, 107, 101]) = false := (HNM.out [108, 105, 107, 101]).trans (decide_eq_false h6)
        have n7 : (nm.toList == [108, 101, 115, 115]) = false := (HNM.out [108, 101, 115, 115]).trans (decide_eq_false h7)
        have n8 : (nm.toList == [97, 100, 100]) = false := (HNM.out [97, 100, 100]).trans (decide_eq_false h8)
        have n9 : (nm.toList == [114, 101, 97, 100]) = false := (HNM.out [114, 101, 97, 100]).trans (decide_eq_false h9)
        have n10 : (nm.toList == [101, 120, 105, 116]) = false := (HNM.out [101, 120, 105, 116]).trans (decide_eq_false h10)
        have HO := Lib.hid (show doO name inn L = none by
          unfold doO
          rw [if_neg h8, if_neg h2, if_neg h0, if_neg h5, if_neg h10, if_neg h4, if_neg h7, if_neg h6, if_neg h1, if_neg h9, if_neg h3])
        clear h0 h1 h2 h3 h4 h5 h6 h7 h8 h9 h10
        have e0 := K6.out.cell 0
        have e1 := K6.out.cell 1
        have e2 := K6.out.cell 2
        have e3 := K6.out.cell 3
        have e4 := K6.out.cell 4
        have e5 := K6.out.cell 5
        have f0 := K6.out.frozen 0
        have f1 := K6.out.frozen 1
        have f2 := K6.out.frozen 2
        have f3 := K6.out.frozen 3
        have f4 := K6.out.frozen 4
        have f5 := K6.out.frozen 5
        simp only [List.getElem?_toArray, List.getElem?_cons_zero, List.getElem?_cons_succ] at e0 e1 e2 e3 e4 e5
        go_wp2_with fail
        have hQ5 := K6.out.set6 (.string { data := #[] }) (.string { data := #[] }) (.int .i64 0) (.string { data := #[] }) (.string { data := #[] }) (.bool false)
        have hB5 := But.set6R g6 x (.string { data := #[] }) (.string { data := #[] }) (.int .i64 0) (.string { data := #[] }) (.string { data := #[] }) (.bool false)
        have t0 := hQ5.cell 0
        have t1 := hQ5.cell 1
        have t2 := hQ5.cell 2
        have t3 := hQ5.cell 3
        have t4 := hQ5.cell 4
        have t5 := hQ5.cell 5
        simp only [List.getElem?_toArray, List.getElem?_cons_zero, List.getElem?_cons_succ] at t0 t1 t2 t3 t4 t5
        have HBF := Lib.hid (HB.out.trans (hB5.below (by rw [HG6.out]; exact Nat.le_refl _) HB.out.size))
        generalize (((((x.setCell ⟨g6, 0, none⟩ (.string { data := #[] })).setCell ⟨g6, 1, none⟩ (.string { data := #[] })).setCell ⟨g6, 2, none⟩ (.int .i64 0)).setCell ⟨g6, 3, none⟩ (.string { data := #[] })).setCell ⟨g6, 4, none⟩ (.string { data := #[] })).setCell ⟨g6, 5, none⟩ (.bool false) = wf at *
        refine bodyPost_ret (v := .tuple #[.agg #[(.string { data := #[] }), (.string { data := #[] }), (.int .i64 0), (.string { data := #[] }), (.string { data := #[] }), (.bool false)], .bool false]) (by simp [results, Tryd.results23, go_sem, t0, t1, t2, t3, t4, t5]) rfl ⟨by rw [HO.out]; rfl, HBF.out⟩
end Go.Proofs.YtjpfolbghjhodaaDoor
