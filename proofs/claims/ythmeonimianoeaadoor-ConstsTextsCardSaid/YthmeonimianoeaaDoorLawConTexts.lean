/- ConstsTexts: whatever texts are handed in, the law answers true. No condition but what the package-level errors hold. -/
import Derived.Test.YthmeonimianoeaaDoorConW9
import Derived.Test.YthmeonimianoeaaDoorConT
set_option linter.unusedVariables false
set_option linter.unusedSimpArgs false
namespace Go.Proofs.YthmeonimianoeaaDoor
open Go.RowKit

def strq (s : List UInt8) : List Value := [.string ⟨s.toArray⟩]
theorem ba_appC (x y : List UInt8) : (⟨x.toArray⟩ ++ ⟨y.toArray⟩ : ByteArray) = ⟨(x ++ y).toArray⟩ := by apply ByteArray.ext; simp
theorem flatten_snoc (L : List (List UInt8)) (s : List UInt8) : (L ++ [s]).flatten = L.flatten ++ s := by simp
theorem flatten_le {L : List (List UInt8)} (h : ∀ s ∈ L, s.length ≤ 100) : L.flatten.length ≤ L.length * 100 := by
  induction L with
  | nil => simp
  | cons s L ih =>
    have h1 := h s (List.mem_cons_self ..)
    have h2 := ih (fun u hu => h u (List.mem_cons_of_mem _ hu))
    rw [List.flatten_cons, List.length_append, List.length_cons, Nat.add_mul]
    omega

set_option maxRecDepth 100000 in
set_option maxHeartbeats 16000000 in
theorem contexts_walk (A : Option Addr) (cp : Nat) (L : List (List UInt8)) (aN aT aM : Addr) (w : World) (hrd : RdL w 1 strq A L) (hsz : ∀ y ∈ L, y.length ≤ 140737488355328) (hE : ErrW w aN aT aM) :
    Calls Tryd.prog 5 #[.slice A L.length cp] w fun e w' => e = .returned (.bool true) ∧ Below w.heap.size w w' := by
  obtain ⟨i0, hi, hz0, hz1, hz2⟩ := info_parts infoNodes
  have FA := Lib.hid (first17_any aN aT aM w hE)
  have HE := Lib.hid hE
  have WC := Lib.hid (fun v t W h1 h2 h3 h4 => cword_tree v t aN aT aM W h2 h3 h1 h4)
  have HSZ := Lib.hid hsz
  obtain ⟨m, hml⟩ : ∃ m, m = L.length := ⟨_, rfl⟩
  rw [← hml]
  have HM := Lib.hid hml
  clear hml hE hsz
  go_enter Tryd.func5, Tryd.ntmps5
  go_wp2_with fail
  refine FA.out.mono ?_
  rintro e w1 ⟨rfl, hb⟩
  clear FA
  rcases Nat.lt_or_ge 12 m with h12 | h12
  · have hg : decide ((12 : Int) < (m : Int)) = true := decide_eq_true (by omega)
    go_wp2_with fail
    go_ret
    exact ⟨rfl, hb⟩
  rcases Nat.eq_zero_or_pos m with h0 | h0
  · subst h0
    go_wp2_with fail
    go_ret
    exact ⟨rfl, hb⟩
  have hg : decide ((12 : Int) < (m : Int)) = false := decide_eq_false (by omega)
  have hg0 : ((m : Int) == 0) = false := by rw [beq_eq_false_iff_ne]; omega
  go_wp2_with fail
  go_loopw [4, 5, 6] (fun u v i wr => ∃ (k : Nat) (A' : Option Addr) (c' : Nat) (us : List Value) (S : List UInt8), k ≤ m ∧ i = .int .i64 k ∧ v = .slice A' k c' ∧ u = .string ⟨S.toArray⟩ ∧ S.length ≤ 1200 ∧ Hid (S = (L.take k).flatten) ∧ Hid (∀ s ∈ L.take k, s.length ≤ 100) ∧
      wr.ownsRow w1.heap.size 23 1 (.slice A' k c') k us ∧ OwnAll wr w1.heap.size us (((L.take k).map txT).map flat) ∧ Below w1.heap.size w1 wr) (fun _ _ i _ => m - (intOf i).toNat)
  case atStart => exact ⟨0, none, 0, [], [], Nat.zero_le _, rfl, rfl, rfl, by simp, Lib.hid rfl, Lib.hid (by simp), World.ownsRow_nil _ _ _ _, OwnAll.nil _ _, Below.refl _ _⟩
  case round =>
    obtain ⟨k, A', c', us, S, hk, rfl, rfl, rfl, hS, HS, H100, hown, hall, hbr⟩ := hrel
    by_cases hlt : k < m
    · have hkL : k < L.length := by rw [← HM.out]; exact hlt
      obtain ⟨b, o, rfl, _, hcc⟩ := (hrd.below hb).below hbr k hkL
      have c0 := hcc 0 _ rfl
      simp only [Nat.mul_one, Nat.add_zero] at c0
      have HT := Lib.hid (show L.take (k + 1) = L.take k ++ [L[k]] from List.take_succ_eq_append_getElem hkL)
      have hsl := HSZ.out L[k] (List.getElem_mem _)
      obtain ⟨x, hx⟩ : ∃ x, x = L[k] := ⟨_, rfl⟩
      rw [← hx] at c0 HT hsl
      obtain ⟨q, hq⟩ : ∃ q, q = x.length := ⟨_, rfl⟩
      have HQ := Lib.hid hq
      rw [← hq] at hsl
      have hql : x.length = q := hq.symm
      clear hcc hkL hx hq
      rcases Nat.lt_or_ge 100 q with h100 | h100
      · have hg1 : decide ((100 : Int) < (q : Int)) = true := decide_eq_true (by omega)
        have hbw := hb.trans (hbr.mono hb.size)
        go_wp2_with fail
        go_ret
        exact ⟨rfl, hbw⟩
      · have hg1 : decide ((100 : Int) < (q : Int)) = false := decide_eq_false (by omega)
        have HA := Lib.hid (ba_appC S x)
        have H1 := Lib.hid (show ∀ s ∈ L.take (k + 1), s.length ≤ 100 by
          rw [HT.out]
          intro s hs
          rcases List.mem_append.1 hs with hs | hs
          · exact H100.out s hs
          · rw [List.mem_singleton.1 hs, ← HQ.out]; exact h100)
        have HFL := Lib.hid (show S ++ x = (L.take (k + 1)).flatten by rw [HT.out, flatten_snoc, HS.out])
        have hS2 : (S ++ x).length ≤ 1200 := by
          have := flatten_le H1.out
          rw [HFL.out]
          rw [List.length_take] at this
          have := HM.out
          omega
        have HS2 := Lib.hid hS2
        clear hS2
        go_wp2_with fail
        refine (litT_any x _).mono ?_
        rintro e w2 ⟨A2, n2, c2, rfl, o2, hb2⟩
        have hown2 := own_below hown hb2
        have hall2 := hall.below hb2
        have hbr2 := hbr.trans (hb2.mono hbr.size)
        have H2 := Lib.hid (show OwnAll w2 w1.heap.size [.slice A2 n2 c2] [flat (txT x)] from OwnAll.one ((o2.mono hbr.size).own'))
        clear o2 hown hall
        go_wp2_with (at_builtin; refine wpList_push rfl _ _ _ rfl Tryd.underlying26 hi hz0 hz1 hz2 rfl (by decide) hown2 rfl rfl rfl (by simp [Value.oneCell']) (by omega) (by decide) hbr2.size ?_; intro A4 c4 w4 hown4 hb4 hoo4)
        go_roundw
        case rel =>
          refine ⟨k + 1, A4, c4, us ++ [.slice A2 n2 c2], S ++ x, by omega, by go_num, rfl, by rw [HA.out], HS2.out, HFL, H1, by simpa using hown4, ?_, hbr2.trans hb4⟩
          rw [HT.out, List.map_append, List.map_append]
          exact (hall2.others hoo4 (by decide)).append (H2.out.others hoo4 (by decide))
        case measure => simp [intOf]; omega
    · obtain rfl : k = m := by omega
      have htk : L.take k = L := by rw [HM.out, List.take_length]
      rw [htk] at HS H100 hall
      have hbw := hb.trans (hbr.mono hb.size)
      obtain ⟨q, hq⟩ : ∃ q, q = S.length := ⟨_, rfl⟩
      have hql : S.length = q := hq.symm
      clear hq
      rcases Nat.lt_or_ge 1000 q with h1000 | h1000
      · have hg1 : decide ((1000 : Int) < (q : Int)) = true := decide_eq_true (by omega)
        go_wp2_with fail
        go_ret
        exact ⟨rfl, hbw⟩
      have hg1 : decide ((1000 : Int) < (q : Int)) = false := decide_eq_false (by omega)
      have hLn : L ≠ [] := by
        intro he
        have := HM.out
        rw [he] at this
        simp at this
        omega
      have hS1 : S.length ≤ 1000 := by omega
      have hcj : constT (txJ L) = txT S := by rw [HS.out]; exact const_txJ L hLn (by rw [← HS.out]; omega)
      have T1 := Lib.hid hcj
      have hok : ∀ d, okT (d + 2) true (txJ L) = true := fun d => txJ_ok hLn (fun s hs => Nat.le_trans (H100.out s hs) (by decide))
      have TL := Lib.hid (show (flat (txJ L)).length ≤ 13 by rw [txJ_len, ← HM.out]; omega)
      have OK1 := Lib.hid hok
      have OK8 := Lib.hid (fun d => un_ok (d := d + 2) (kd := 8) (n := 0) (by omega) (fun _ => rfl) (hok d))
      have OK11 := Lib.hid (fun d => un_ok (d := d + 2) (kd := 11) (n := 1) (by omega) (fun h => absurd rfl h) (hok d))
      have E1 := Lib.hid (const_plain hcj hS1)
      have E2 := Lib.hid (const_glob hcj hS1)
      have E3 := Lib.hid (const_flat hcj)
      have E4 := Lib.hid (const_count hcj)
      have hkd := KdRd.of_own hown (by rw [List.length_map, List.length_map]; exact HM.out) hall
      have NC := Lib.hid (newT_any 4 0 [] A' c' k (L.map txT) wr hkd (by rw [List.length_map]; exact HM.out) (by have := txs_len L; unfold sizeL at this; have := HM.out; omega))
      have SS := Lib.hid (fun va vb s W h1 h2 => sameT_yes va vb (txT s) W h1 h2 (by rw [tx_len]; decide))
      clear hcj hok hown hall hkd hLn htk hlt hk hS1
      go_wp2_with fail
      refine NC.out.mono ?_
      rintro e w2 ⟨A2, n2, c2, rfl, o2, hb2⟩
      have s2 : SlRd w2 (.slice A2 n2 c2) (flat (txJ L)) := o2.rd
      have hb := hbw.trans (hb2.mono hbw.size)
      clear o2 hbw hb2 NC
      go_wp2_with fail
      refine (newL_any 8 0 [] _ 1 1 [(txJ L)] _ (AllRd.one s2) rfl (by rw [flatAll_cons, flatAll_nil, List.append_nil]; have := TL.out; (try rw [un_len]); omega)).mono ?_
      rintro e w3 ⟨A3, n3, c3, rfl, o3, hb3⟩
      have s3 : SlRd w3 (.slice A3 n3 c3) (flat (unT 8 0 (txJ L))) := o3.rd
      clear o3
      replace s2 := s2.below hb3
      replace hb := hb.trans (hb3.mono hb.size)
      clear hb3
      go_wp2_with fail
      refine (newL_any 7 0 [] _ 1 1 [(unT 8 0 (txJ L))] _ (AllRd.one s3) rfl (by rw [flatAll_cons, flatAll_nil, List.append_nil]; have := TL.out; (try rw [un_len]); omega)).mono ?_
      rintro e w4 ⟨A4, n4, c4, rfl, o4, hb4⟩
      have s4 : SlRd w4 (.slice A4 n4 c4) (flat (unT 7 0 (unT 8 0 (txJ L)))) := o4.rd
      clear o4
      replace s2 := s2.below hb4
      replace hb := hb.trans (hb4.mono hb.size)
      clear hb4 s3
      go_wp2_with fail
      refine (newL_any 8 0 [] _ 1 1 [(txJ L)] _ (AllRd.one s2) rfl (by rw [flatAll_cons, flatAll_nil, List.append_nil]; have := TL.out; (try rw [un_len]); omega)).mono ?_
      rintro e w5 ⟨A5, n5, c5, rfl, o5, hb5⟩
      have s5 : SlRd w5 (.slice A5 n5 c5) (flat (unT 8 0 (txJ L))) := o5.rd
      clear o5
      replace s2 := s2.below hb5
      replace s4 := s4.below hb5
      replace hb := hb.trans (hb5.mono hb.size)
      clear hb5
      go_wp2_with fail
      refine (newL_any 6 0 [] _ 1 1 [(unT 8 0 (txJ L))] _ (AllRd.one s5) rfl (by rw [flatAll_cons, flatAll_nil, List.append_nil]; have := TL.out; (try rw [un_len]); omega)).mono ?_
      rintro e w6 ⟨A6, n6, c6, rfl, o6, hb6⟩
      have s6 : SlRd w6 (.slice A6 n6 c6) (flat (unT 6 0 (unT 8 0 (txJ L)))) := o6.rd
      clear o6
      replace s2 := s2.below hb6
      replace s4 := s4.below hb6
      replace hb := hb.trans (hb6.mono hb.size)
      clear hb6 s5
      go_wp2_with fail
      refine (newL_any 11 1 [] _ 1 1 [(txJ L)] _ (AllRd.one s2) rfl (by rw [flatAll_cons, flatAll_nil, List.append_nil]; have := TL.out; (try rw [un_len]); omega)).mono ?_
      rintro e w7 ⟨A7, n7, c7, rfl, o7, hb7⟩
      have s7 : SlRd w7 (.slice A7 n7 c7) (flat (unT 11 1 (txJ L))) := o7.rd
      clear o7
      replace s2 := s2.below hb7
      replace s4 := s4.below hb7
      replace s6 := s6.below hb7
      replace hb := hb.trans (hb7.mono hb.size)
      clear hb7
      go_wp2_with fail
      refine (newL_any 9 0 [] _ 1 1 [(unT 11 1 (txJ L))] _ (AllRd.one s7) rfl (by rw [flatAll_cons, flatAll_nil, List.append_nil]; have := TL.out; (try rw [un_len]); omega)).mono ?_
      rintro e w8 ⟨A8, n8, c8, rfl, o8, hb8⟩
      have s8 : SlRd w8 (.slice A8 n8 c8) (flat (unT 9 0 (unT 11 1 (txJ L)))) := o8.rd
      clear o8
      replace s2 := s2.below hb8
      replace s4 := s4.below hb8
      replace s6 := s6.below hb8
      replace hb := hb.trans (hb8.mono hb.size)
      clear hb8 s7
      go_wp2_with fail
      refine (newL_any 10 0 [] _ 1 1 [(txJ L)] _ (AllRd.one s2) rfl (by rw [flatAll_cons, flatAll_nil, List.append_nil]; have := TL.out; (try rw [un_len]); omega)).mono ?_
      rintro e w9 ⟨A9, n9, c9, rfl, o9, hb9⟩
      have s9 : SlRd w9 (.slice A9 n9 c9) (flat (unT 10 0 (txJ L))) := o9.rd
      clear o9
      replace s2 := s2.below hb9
      replace s4 := s4.below hb9
      replace s6 := s6.below hb9
      replace s8 := s8.below hb9
      replace hb := hb.trans (hb9.mono hb.size)
      clear hb9
      go_wp2_with fail
      refine (litT_any S _).mono ?_
      rintro e w10 ⟨A10, n10, c10, rfl, o10, hb10⟩
      have s10 := o10.rd
      clear o10
      replace s2 := s2.below hb10
      replace s4 := s4.below hb10
      replace s6 := s6.below hb10
      replace s8 := s8.below hb10
      replace s9 := s9.below hb10
      replace hb := hb.trans (hb10.mono hb.size)
      clear hb10
      go_wp2_with fail
      refine (WC.out _ (txJ L) _ s2 (OK1.out 27) (by have := TL.out; omega) (HE.out.below hb)).mono ?_
      rintro e w11 ⟨A11, n11, c11, rfl, o11, hb11⟩
      rw [T1.out] at o11
      have s11 := o11.rd
      clear o11
      replace s4 := s4.below hb11
      replace s6 := s6.below hb11
      replace s8 := s8.below hb11
      replace s9 := s9.below hb11
      replace s10 := s10.below hb11
      replace hb := hb.trans (hb11.mono hb.size)
      clear hb11 s2
      go_wp2_with fail
      refine (SS.out _ _ S _ s11 s10).mono ?_
      rintro e w12 ⟨rfl, hb12⟩
      replace s4 := s4.below hb12
      replace s6 := s6.below hb12
      replace s8 := s8.below hb12
      replace s9 := s9.below hb12
      replace s10 := s10.below hb12
      replace hb := hb.trans (hb12.mono hb.size)
      clear hb12 s11
      go_wp2_with fail
      refine (WC.out _ (unT 7 0 (unT 8 0 (txJ L))) _ s4 (un_ok (by omega) (fun _ => rfl) (OK8.out 25)) (by have := TL.out; rw [un_len, un_len]; omega) (HE.out.below hb)).mono ?_
      rintro e w13 ⟨A13, n13, c13, rfl, o13, hb13⟩
      rw [E1.out] at o13
      have s13 := o13.rd
      clear o13
      replace s6 := s6.below hb13
      replace s8 := s8.below hb13
      replace s9 := s9.below hb13
      replace s10 := s10.below hb13
      replace hb := hb.trans (hb13.mono hb.size)
      clear hb13 s4
      go_wp2_with fail
      refine (SS.out _ _ S _ s13 s10).mono ?_
      rintro e w14 ⟨rfl, hb14⟩
      replace s6 := s6.below hb14
      replace s8 := s8.below hb14
      replace s9 := s9.below hb14
      replace s10 := s10.below hb14
      replace hb := hb.trans (hb14.mono hb.size)
      clear hb14 s13
      go_wp2_with fail
      refine (WC.out _ (unT 6 0 (unT 8 0 (txJ L))) _ s6 (un_ok (by omega) (fun _ => rfl) (OK8.out 25)) (by have := TL.out; rw [un_len, un_len]; omega) (HE.out.below hb)).mono ?_
      rintro e w15 ⟨A15, n15, c15, rfl, o15, hb15⟩
      rw [E2.out] at o15
      have s15 := o15.rd
      clear o15
      replace s8 := s8.below hb15
      replace s9 := s9.below hb15
      replace s10 := s10.below hb15
      replace hb := hb.trans (hb15.mono hb.size)
      clear hb15 s6
      go_wp2_with fail
      refine (SS.out _ _ S _ s15 s10).mono ?_
      rintro e w16 ⟨rfl, hb16⟩
      replace s8 := s8.below hb16
      replace s9 := s9.below hb16
      replace s10 := s10.below hb16
      replace hb := hb.trans (hb16.mono hb.size)
      clear hb16 s15
      go_wp2_with fail
      refine (WC.out _ (unT 9 0 (unT 11 1 (txJ L))) _ s8 (un_ok (by omega) (fun _ => rfl) (OK11.out 25)) (by have := TL.out; rw [un_len, un_len]; omega) (HE.out.below hb)).mono ?_
      rintro e w17 ⟨A17, n17, c17, rfl, o17, hb17⟩
      rw [E3.out] at o17
      have s17 := o17.rd
      clear o17
      replace s9 := s9.below hb17
      replace s10 := s10.below hb17
      replace hb := hb.trans (hb17.mono hb.size)
      clear hb17 s8
      go_wp2_with fail
      refine (SS.out _ _ S _ s17 s10).mono ?_
      rintro e w18 ⟨rfl, hb18⟩
      replace s9 := s9.below hb18
      replace hb := hb.trans (hb18.mono hb.size)
      clear hb18 s17 s10
      go_wp2_with fail
      refine (WC.out _ (unT 10 0 (txJ L)) _ s9 (un_ok (by omega) (fun _ => rfl) (OK1.out 26)) (by have := TL.out; rw [un_len]; omega) (HE.out.below hb)).mono ?_
      rintro e w19 ⟨A19, n19, c19, rfl, o19, hb19⟩
      rw [E4.out] at o19
      have s19 := o19.rd
      clear o19
      replace hb := hb.trans (hb19.mono hb.size)
      clear hb19 s9
      go_wp2_with fail
      refine (litT_any [49] _).mono ?_
      rintro e w20 ⟨A20, n20, c20, rfl, o20, hb20⟩
      have s20 := o20.rd
      clear o20
      replace s19 := s19.below hb20
      replace hb := hb.trans (hb20.mono hb.size)
      clear hb20
      go_wp2_with fail
      refine (SS.out _ _ [49] _ s19 s20).mono ?_
      rintro e w21 ⟨rfl, hb21⟩
      replace hb := hb.trans (hb21.mono hb.size)
      go_wp2_with fail
      go_ret
      exact ⟨rfl, hb⟩
theorem contexts_card (A : Option Addr) (cp : Nat) (L : List (List UInt8)) (aN aT aM : Addr) (w : World) (hrd : RdL w 1 strq A L) (_ : L.length ≤ cp) (_ : cp ≤ maxLen) (_ : A = none → cp = 0) (hsz : ∀ y ∈ L, y.length ≤ 140737488355328) (hE : ErrW w aN aT aM) :
    Calls Tryd.prog 5 #[.slice A L.length cp] w fun e w' => e = .returned (.bool true) ∧ Below w.heap.size w w' := contexts_walk A cp L aN aT aM w hrd hsz hE
end Go.Proofs.YthmeonimianoeaaDoor
