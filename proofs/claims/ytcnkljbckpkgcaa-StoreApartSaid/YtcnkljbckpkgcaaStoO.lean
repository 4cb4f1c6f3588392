/- What a store is told (patoislaw7.Do) in memory; the walk over light: are things few? No condition. -/
import Derived.Test.YtcnkljbckpkgcaaStoW3
import Derived.BigQuiet
set_option linter.unusedVariables false
set_option linter.unusedSimpArgs false
namespace Go.Proofs.Ytcnkljbckpkgcaa
open Go.RowKit Go.Maps Go.Sort

structure DoD where
  kind : Int
  name : Txt
  l : List Txt
  has : Bool
  p : List Nd
structure DoV where
  kind : Int
  name : Txt
  l : Value
  has : Bool
  p : Value
def doC (y : DoV) : List Value := [.int .i64 y.kind, .string ⟨y.name.toArray⟩, y.l, .bool y.has, y.p]
theorem doC_len (y : DoV) : (doC y).length = 5 := rfl
structure Do1 (w : World) (y : DoV) (d : DoD) : Prop where
  kind : y.kind = d.kind
  name : y.name = d.name
  has : y.has = d.has
  l : TxR w y.l d.l
  p : SlRd w y.p d.p
theorem Do1.below {w w' : World} {y : DoV} {d : DoD} (h : Do1 w y d) (hb : Below w.heap.size w w') : Do1 w' y d := ⟨h.kind, h.name, h.has, h.l.below hb, h.p.below hb⟩
/-- A slice value that reads as a list of such things. -/
def DoR (w : World) (v : Value) (D : List DoD) : Prop := ∃ A c ys, v = .slice A D.length c ∧ RdL w 5 doC A ys ∧ (ys.length = D.length ∧ ∀ i (h : i < ys.length) (h2 : i < D.length), Do1 w ys[i] D[i]) ∧ (A = none → c = 0) ∧ D.length ≤ c ∧ c ≤ maxLen
theorem DoR.below {w w' : World} {v : Value} {D : List DoD} (h : DoR w v D) (hb : Below w.heap.size w w') : DoR w' v D :=
  let ⟨A, c, ys, h1, h2, h3, h4⟩ := h
  ⟨A, c, ys, h1, h2.below hb, ⟨h3.1, fun i a b => (h3.2 i a b).below hb⟩, h4⟩
/-- Things are few, and short. -/
def FewT (l : List Txt) : Prop := l.length ≤ 20
def Few1 (d : DoD) : Prop := d.l.length ≤ 20 ∧ d.p.length ≤ 20 ∧ d.name.length ≤ 100
def Few (D : List DoD) : Prop := D.length ≤ 60 ∧ ∀ i (_ : i < D.length), Few1 D[i]
def LightRet (D : List DoD) (w : World) (e : Ending) (w' : World) : Prop := ∃ b : Bool, e = .returned (.bool b) ∧ (b = true → Few D) ∧ w' = w
set_option maxRecDepth 100000 in
set_option maxHeartbeats 4000000 in
theorem light_any (v : Value) (D : List DoD) (w : World) (h : DoR w v D) : Calls Try.prog 6 #[v] w (LightRet D w) := by
  obtain ⟨A, c, ys, rfl, hr, ha, hz, hc, hm⟩ := h
  obtain ⟨m, hmm⟩ : ∃ m, m = D.length := ⟨_, rfl⟩
  rw [← hmm] at hc ⊢
  have hm64 : m ≤ 9223372036854775807 := by unfold maxLen at hm; omega
  have HM := Lib.hid hmm
  have HR := Lib.hid hr
  have HA := Lib.hid ha
  clear hmm hr ha hz hc hm
  go_enter Try.func6, Try.ntmps6
  go_wp2_with fail
  go_loopw [3] (fun i wr => ∃ k : Nat, k ≤ m ∧ k ≤ 61 ∧ i = .int .i64 k ∧ wr = w ∧ Hid (∀ j (_ : j < k) (h : j < D.length), Few1 D[j])) (fun i _ => m - (intOf i).toNat)
  case atStart => exact ⟨0, Nat.zero_le _, Nat.zero_le _, rfl, rfl, Lib.hid (fun j h => absurd h (Nat.not_lt_zero _))⟩
  case round =>
    obtain ⟨k, hk, hk61, rfl, hwr, HS⟩ := hrel
    obtain rfl : w = wr := hwr.symm
    clear hwr
    by_cases hlt : k < m
    · by_cases h60 : k ≤ 60
      · have hkD : k < D.length := by rw [← HM.out]; exact hlt
        have hky : k < ys.length := by rw [HA.out.1]; exact hkD
        obtain ⟨b, o, rfl, _, hcc⟩ := HR.out k hky
        have hd := HA.out.2 k hky hkD
        obtain ⟨y, hy⟩ : ∃ y, y = ys[k] := ⟨_, rfl⟩
        obtain ⟨d, hdd⟩ : ∃ d, d = D[k] := ⟨_, rfl⟩
        rw [← hy] at hcc hd
        rw [← hdd] at hd
        have HD := Lib.hid (show ∀ h : k < D.length, D[k] = d from fun _ => hdd.symm)
        have q1 := hcc 1 _ rfl
        have q2 := hcc 2 _ rfl
        have q4 := hcc 4 _ rfl
        rw [hd.name] at q1
        obtain ⟨Al, cl, hle, hlr, -⟩ := hd.l
        obtain ⟨Ap, cp, hpe, -⟩ := hd.p
        rw [hle] at q2
        rw [hpe] at q4
        have HLR := Lib.hid hlr
        obtain ⟨dk, dn, dl, dh, dp⟩ := d
        simp only at q1 q2 q4 HLR
        obtain ⟨nl, hnl⟩ : ∃ nl, nl = dl.length := ⟨_, rfl⟩
        obtain ⟨np, hnp⟩ : ∃ np, np = dp.length := ⟨_, rfl⟩
        rw [← hnl] at q2
        rw [← hnp] at q4
        have HNL := Lib.hid hnl
        have HNP := Lib.hid hnp
        clear hcc hd hy hdd hle hpe hlr hnl hnp hkD hky
        by_cases h20 : 20 < nl
        · go_wp2_with fail
          go_ret
          exact ⟨false, rfl, (fun h => by cases h), rfl⟩
        · by_cases hp20 : 20 < np
          · have h20' : decide ((20 : Int) < nl) = false := decide_eq_false (by omega)
            go_wp2_with fail
            go_ret
            exact ⟨false, rfl, (fun h => by cases h), rfl⟩
          · have h20' : decide ((20 : Int) < nl) = false := decide_eq_false (by omega)
            have hp20' : decide ((20 : Int) < np) = false := decide_eq_false (by omega)
            obtain ⟨ln, hln⟩ : ∃ ln, ln = dn.length := ⟨_, rfl⟩
            have HLN := Lib.hid hln
            by_cases hn100 : 100 < ln
            · rw [hln] at hn100
              clear hln
              go_wp2_with fail
              go_ret
              exact ⟨false, rfl, (fun h => by cases h), rfl⟩
            · have HS2 := Lib.hid (show ∀ j (_ : j < k + 1) (h : j < D.length), Few1 D[j] from fun j h h' => by
                rcases Nat.lt_succ_iff_lt_or_eq.1 h with h | rfl
                · exact HS.out j h h'
                · rw [HD.out h']
                  exact ⟨by rw [← HNL.out]; omega, by rw [← HNP.out]; omega, by rw [← HLN.out]; omega⟩)
              rw [hln] at hn100
              clear hln HS HD
              go_wp2_with fail
              go_loopw [4] (fun i wr => ∃ j : Nat, j ≤ nl ∧ i = .int .i64 j ∧ wr = w) (fun i _ => nl - (intOf i).toNat)
              case atStart => exact ⟨0, Nat.zero_le _, rfl, rfl⟩
              case round =>
                obtain ⟨j, hj, rfl, hwr⟩ := hrel
                obtain rfl : w = wr := hwr.symm
                clear hwr
                by_cases hjl : j < nl
                · obtain ⟨b2, o2, rfl, _, hc2⟩ := HLR.out j (by rw [← HNL.out]; exact hjl)
                  have z0 := hc2 0 _ rfl
                  simp only [Nat.mul_one, Nat.add_zero] at z0
                  generalize dl[j] = t at *
                  clear hc2
                  by_cases ht : 100 < t.length
                  · go_wp2_with fail
                    go_ret
                    exact ⟨false, rfl, (fun h => by cases h), rfl⟩
                  · go_wp2_with fail
                    go_roundw
                    case rel => exact ⟨j + 1, by omega, by go_num, trivial⟩
                    case measure => simp [intOf]; omega
                · obtain rfl : j = nl := by omega
                  go_wp2_with fail
                  go_roundw
                  case rel => exact ⟨k + 1, by omega, by omega, by go_num, trivial, HS2⟩
                  case measure => simp [intOf]; omega
      · have hx : decide ((k : Int) ≤ 60) = false := decide_eq_false (by omega)
        have hy : decide ((m : Int) ≤ 60) = false := decide_eq_false (by omega)
        go_wp2_with fail
        go_ret
        exact ⟨false, rfl, (fun h => by cases h), rfl⟩
    · obtain rfl : k = m := by omega
      have HF := Lib.hid (show k ≤ 60 → Few D from fun h => ⟨by rw [← HM.out]; exact h, fun i hi => HS.out i (by rw [HM.out]; exact hi) hi⟩)
      clear HS
      by_cases h60 : k ≤ 60
      · have hy : decide ((k : Int) ≤ 60) = true := decide_eq_true (by omega)
        go_wp2_with fail
        go_ret
        exact ⟨true, rfl, (fun _ => HF.out h60), rfl⟩
      · have hy : decide ((k : Int) ≤ 60) = false := decide_eq_false (by omega)
        go_wp2_with fail
        go_ret
        exact ⟨false, rfl, (fun h => by cases h), rfl⟩
end Go.Proofs.Ytcnkljbckpkgcaa
