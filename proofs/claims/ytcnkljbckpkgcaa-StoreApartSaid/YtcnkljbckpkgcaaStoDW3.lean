/- The walk over the document's store: Set. Bounds on the lengths. -/
import Derived.Test.YtcnkljbckpkgcaaStoDW2
import Derived.Test.YtcnkljbckpkgcaaStoT
import Derived.BigQuiet
set_option linter.unusedVariables false
set_option linter.unusedSimpArgs false
namespace Go.Proofs.Ytcnkljbckpkgcaa
open Go.RowKit Go.Maps Go.Sort
variable {X : Nat → Prop}

def mkV (B : Nat) (T : TypeId) (m : Nat) : TT := ⟨fun v => ∃ g, v = .slice (some ⟨g, 0, none⟩) 0 m, ⟨_, 0, rfl⟩, fun v x => x.ownsRow B T 2 v 0 [], fun _ _ _ h hb => own_below h hb⟩
theorem TxR.doc {w w' : World} {v : Value} {L : List Txt} (h : TxR w v L) {xb : Nat} {x : Sto} {F : List (Txt × List Nd)} (hd : DocI X w xb x F) (hb : But xb w w') : TxR w' v L := by
  obtain ⟨A, c, h1, h2, h3⟩ := h
  refine ⟨A, c, h1, h2.butS (S := [xb]) (ButS.ofBut hb (by simp)) ?_, h3⟩
  rintro b o rfl hl hm
  obtain rfl : b = xb := by simpa using hm
  have hc := (h2.at_ hl).2 0 _ rfl
  obtain ⟨vv, va, vf, q1, q2, q3, q4⟩ := hd.blk
  obtain ⟨A1, c1, rfl⟩ := q2.form
  obtain ⟨A2, c2, rfl⟩ := q3.form
  obtain ⟨A3, c3, rfl⟩ := q4.form
  rw [q1.cell] at hc
  rcases o with _ | _ | _ | o <;> simp at hc
theorem lo_cut {α : Type} {n : Txt} : ∀ {M : List (Txt × α)} {k : Nat}, k ≤ M.length → (∀ j (_ : j < k) (h : j < M.length), M[j].1 < n) → (∀ h : k < M.length, ¬ M[k].1 < n) → M.take k = loA n M ∧ M.drop k = hiA n M
  | [], k, hk, _, _ => by
    obtain rfl : k = 0 := by simpa using hk
    exact ⟨rfl, rfl⟩
  | p :: M, 0, hk, h1, h2 => by
    have := h2 (by simp)
    unfold loA hiA
    rw [List.takeWhile_cons_of_neg (by simpa using this), List.dropWhile_cons_of_neg (by simpa using this)]
    exact ⟨rfl, rfl⟩
  | p :: M, k + 1, hk, h1, h2 => by
    have h0 := h1 0 (by omega) (by simp)
    have ih := lo_cut (n := n) (M := M) (k := k) (by simpa using hk) (fun j hj h => h1 (j + 1) (by omega) (by simpa using h)) (fun h => h2 (by simpa using h))
    unfold loA hiA at ih ⊢
    rw [List.takeWhile_cons_of_pos (by simpa using h0), List.dropWhile_cons_of_pos (by simpa using h0), ← ih.1, ← ih.2]
    exact ⟨rfl, rfl⟩
theorem RdL.takes {α : Type} {enc : α → List Value} {sz : Nat} {w : World} {A : Option Addr} {l : List α} (h : RdL w sz enc A l) (k : Nat) : RdL w sz enc A (l.take k) := fun j hj => by
  obtain ⟨b, o, h1, h2, h3⟩ := h j (by simp at hj; omega)
  refine ⟨b, o, h1, h2, ?_⟩
  rwa [List.getElem_take]
theorem RdL.drops {α : Type} {enc : α → List Value} {sz : Nat} {w : World} {g o : Nat} {l : List α} (h : RdL w sz enc (some ⟨g, o, none⟩) l) (k : Nat) : RdL w sz enc (some ⟨g, o + k * sz, none⟩) (l.drop k) := fun j hj => by
  obtain ⟨b, o', h1, h2, h3⟩ := h (k + j) (by simp at hj; omega)
  simp only [Option.some.injEq, Addr.mk.injEq, and_true] at h1
  obtain ⟨rfl, rfl⟩ := h1
  refine ⟨g, o + k * sz, rfl, h2, fun i u hu => ?_⟩
  rw [List.getElem_drop] at hu
  have := h3 i u hu
  rwa [Nat.add_mul, ← Nat.add_assoc] at this
theorem allg_one {w : World} {vs : List (Txt × Value)} {M : List (Txt × List Txt)} (h : AllG (OT X) w vs M) : ∀ y ∈ vs, ∀ u ∈ valc y, u.oneCell' = true := by
  intro y hy u hu
  obtain ⟨i, hi, rfl⟩ := List.mem_iff_getElem.1 hy
  obtain ⟨A, c, he⟩ := (h.2 i hi (by rw [← h.1]; exact hi)).2.form
  simp only [valc, List.mem_cons, List.not_mem_nil, or_false] at hu
  rcases hu with rfl | rfl
  · rfl
  · rw [he]; rfl
set_option maxRecDepth 100000 in
set_option maxHeartbeats 8000000 in
theorem dset_any (xb : Nat) (x : Sto) (F : List (Txt × List Nd)) (n : Txt) (v : Value) (l : List Txt) (w : World) (h : DocI X w xb x F) (hv : TxR w v l) (hl : x.vars.length ≤ 100000) (hl2 : l.length ≤ 1000000) :
    Calls Try.prog 8 #[.pointer (some ⟨xb, 0, none⟩), .string ⟨n.toArray⟩, v] w (DSetRet X xb (setS x n l) F w) := by
  obtain ⟨i0, hi, hz0, hz1, hz2⟩ := info_parts infoVal
  have HI := Lib.hid h
  have HV := Lib.hid hv
  cases hn : (n == star)
  · have hn' : n ≠ star := fun e => by rw [e] at hn; simp at hn
    have HG := Lib.hid (show setS x n l = ⟨putA n l x.vars, x.args⟩ by unfold setS; rw [if_neg hn'])
    have HU := Lib.hid (dunset_any xb x F n w h (by omega))
    rw [show unsetS x n = ⟨delA n x.vars, x.args⟩ by unfold unsetS; rw [if_neg hn']] at HU
    have hn2 : (n == [42]) = false := hn
    have hdl := del_len n x.vars
    obtain ⟨M, hM⟩ : ∃ M, M = delA n x.vars := ⟨_, rfl⟩
    rw [← hM] at HU hdl
    have HMV := Lib.hid hM
    have HSM := Lib.hid (show SortA M by rw [hM]; exact sort_del h.sv)
    have hml : M.length ≤ 100000 := by omega
    obtain ⟨Av, cv, rfl, hv1, hv2, hv3, hv4⟩ := hv
    obtain ⟨nl, hnl⟩ : ∃ nl, nl = l.length := ⟨_, rfl⟩
    rw [← hnl] at HV hl2 ⊢
    have HNL := Lib.hid hnl
    clear hn hn' h hM hv1 hv2 hv3 hv4 hnl hdl hl
    go_enter Try.func8, Try.ntmps8
    go_wp2_with fail
    refine HU.out.mono ?_
    rintro e w2 ⟨rfl, h2, hb2⟩
    have HI2 := Lib.hid h2
    have HB2 := Lib.hid hb2
    obtain ⟨vv, va, vf, hb, hvv, hva, _⟩ := h2.blk
    obtain ⟨A, c, vs, rfl, hr, ha, hzz, hmc, hcm⟩ := hvv.rd
    have hAA : (A = none ∧ M.length = 0) ∨ ∃ g, A = some ⟨g, 0, none⟩ := by
      obtain ⟨A', c', us, he, ho, _⟩ := hvv
      injection he with he1 _ _
      subst he1
      rcases ho.2 with ⟨h1, h2⟩ | ⟨g, cap, cur, he, _⟩
      · simp only [Value.slice.injEq] at h1
        exact .inl ⟨h1.1, h2⟩
      · simp only [Value.slice.injEq] at he
        exact .inr ⟨g, he.1⟩
    rcases hAA with ⟨rfl, hm0⟩ | ⟨g, rfl⟩
    · obtain rfl := hzz rfl
      rw [hm0] at hb
      have HB := Lib.hid hb
      have HPU := Lib.hid (show putA n l x.vars = [(n, l)] by unfold putA; rw [← HMV.out, List.eq_nil_of_length_eq_zero hm0]; rfl)
      obtain ⟨Aa, ca, rfl⟩ := hva.form
      generalize x.args.length = na at *
      clear hb hvv hva hr ha hmc hcm h2 hb2 hzz hm0 hml
      have c0 := HB.out.cell 0
      simp only [List.getElem?_toArray, List.getElem?_cons_succ, List.getElem?_cons_zero] at c0
      go_wp2_with fail
      go_loopw [6] (fun i wr => i = .int .i64 0 ∧ wr = w2) (fun i _ => 0)
      case atStart => exact ⟨rfl, rfl⟩
      case round =>
        obtain ⟨rfl, hwr⟩ := hrel
        obtain rfl : w2 = wr := hwr.symm
        clear hwr
        go_upto_region 6 with (fail)
        apply wp_region_relA 13 [eqT _, eqT _, eqT _, eqT _, eqT _, eqT _, mkV w2.heap.size 34 1, eqT _, eqT _, eqT _, eqT _, eqT _, eqT _] (by kernel_rfl) (by kernel_rfl) (by kernel_rfl) rfl
        focus
          refine ⟨?_, ?_⟩
          focus
            unfold opGoal
            rw [if_pos (by kernel_rfl)]
            intro x hb hd K hk
            clear hd
            go_wp2_with fail
            exact hk _ _ rfl trivial (Below.refl _ _)
          rintro _ rfl
          simp only [Act.put, List.setIfInBounds_toArray, List.set_cons_succ, List.set_cons_zero]
          refine ⟨?_, ?_⟩
          focus
            unfold opGoal
            rw [if_pos (by kernel_rfl)]
            intro x hb hd K hk
            clear hd
            go_wp2_with fail
            exact hk _ _ rfl trivial (Below.refl _ _)
          rintro _ rfl
          simp only [Act.put, List.setIfInBounds_toArray, List.set_cons_succ, List.set_cons_zero]
          refine ⟨?_, ?_⟩
          focus
            unfold opGoal
            rw [if_pos (by kernel_rfl)]
            intro x hb hd K hk
            clear hd
            go_wp2_with fail
            exact hk _ _ rfl trivial (Below.refl _ _)
          rintro _ rfl
          simp only [Act.put, List.setIfInBounds_toArray, List.set_cons_succ, List.set_cons_zero]
          refine ⟨?_, ?_⟩
          focus
            unfold opGoal
            rw [if_pos (by kernel_rfl)]
            intro x hb hd K hk
            clear hd
            have l0 := cell_keep hb c0
            go_wp2_with fail
            exact hk _ _ rfl trivial (Below.refl _ _)
          rintro _ rfl
          simp only [Act.put, List.setIfInBounds_toArray, List.set_cons_succ, List.set_cons_zero]
          refine ⟨?_, ?_⟩
          focus
            unfold opGoal
            rw [if_pos (by kernel_rfl)]
            intro x hb hd K hk
            clear hd
            go_wp2_with fail
            exact hk _ _ rfl trivial (Below.refl _ _)
          rintro _ rfl
          simp only [Act.put, List.setIfInBounds_toArray, List.set_cons_succ, List.set_cons_zero]
          refine ⟨?_, ?_⟩
          focus
            unfold opGoal
            rw [if_pos (by kernel_rfl)]
            intro x hb hd K hk
            clear hd
            go_wp2_with fail
            exact hk _ _ rfl trivial (Below.refl _ _)
          rintro _ rfl
          simp only [Act.put, List.setIfInBounds_toArray, List.set_cons_succ, List.set_cons_zero]
          refine ⟨?_, ?_⟩
          focus
            unfold opGoal
            rw [if_pos (by kernel_rfl)]
            intro x hb hd K hk
            clear hd
            go_wp2_with fail
            obtain ⟨w', hrun, r1, r2⟩ := run_make_own (P := Try.prog) (w := x) w2.heap.size 22 34 i0 _ 2 Try.underlying22 hi hz0 hz1 .i64 .i64 1 (by rw [hz2]; decide) (by decide) hb.size
            rw [show (1 : Int) = ((1 : Nat) : Int) from rfl, hrun]
            exact hk _ _ ⟨_, rfl⟩ r1 ((Below.refl _ _).grown r2 (Nat.le_refl _) (fun k h => by cases h))
          rintro _ ⟨g48, rfl⟩
          simp only [Act.put, List.setIfInBounds_toArray, List.set_cons_succ, List.set_cons_zero]
          refine ⟨?_, ?_⟩
          focus
            unfold opGoal
            rw [if_pos (by kernel_rfl)]
            intro x hb hd K hk
            clear hd
            go_wp2_with fail
            exact hk _ _ rfl trivial (Below.refl _ _)
          rintro _ rfl
          simp only [Act.put, List.setIfInBounds_toArray, List.set_cons_succ, List.set_cons_zero]
          refine ⟨?_, ?_⟩
          focus
            unfold opGoal
            rw [if_pos (by kernel_rfl)]
            intro x hb hd K hk
            clear hd
            go_wp2_with fail
            exact hk _ _ rfl trivial (Below.refl _ _)
          rintro _ rfl
          simp only [Act.put, List.setIfInBounds_toArray, List.set_cons_succ, List.set_cons_zero]
          refine ⟨?_, ?_⟩
          focus
            unfold opGoal
            rw [if_pos (by kernel_rfl)]
            intro x hb hd K hk
            clear hd
            go_wp2_with fail
            exact hk _ _ rfl trivial (Below.refl _ _)
          rintro _ rfl
          simp only [Act.put, List.setIfInBounds_toArray, List.set_cons_succ, List.set_cons_zero]
          refine ⟨?_, ?_⟩
          focus
            unfold opGoal
            rw [if_pos (by kernel_rfl)]
            intro x hb hd K hk
            clear hd
            have l0 := cell_keep hb c0
            go_wp2_with fail
            exact hk _ _ rfl trivial (Below.refl _ _)
          rintro _ rfl
          simp only [Act.put, List.setIfInBounds_toArray, List.set_cons_succ, List.set_cons_zero]
          refine ⟨?_, ?_⟩
          focus
            unfold opGoal
            rw [if_pos (by kernel_rfl)]
            intro x hb hd K hk
            clear hd
            go_wp2_with fail
            exact hk _ _ rfl trivial (Below.refl _ _)
          rintro _ rfl
          simp only [Act.put, List.setIfInBounds_toArray, List.set_cons_succ, List.set_cons_zero]
          refine ⟨?_, ?_⟩
          focus
            unfold opGoal
            rw [if_pos (by kernel_rfl)]
            intro x hb hd K hk
            clear hd
            go_wp2_with fail
            exact hk _ _ rfl trivial (Below.refl _ _)
          rintro _ rfl
          simp only [Act.put, List.setIfInBounds_toArray, List.set_cons_succ, List.set_cons_zero]
          intro y hby hf
          simp only [List.drop_succ_cons, List.drop_zero]
          have hown48 : y.ownsRow w2.heap.size 34 2 (.slice (some ⟨g48, 0, none⟩) 0 1) 0 [] := hf 6 _ _ rfl rfl
          clear hf c0
          go_upto_region 7 with (at_builtin; refine wpList_pushMem (enc := valc) (l := []) rfl _ _ _ rfl Try.underlying22 hi hz0 hz1 hz2 rfl (by decide) hown48 rfl rfl rfl (RdL.nil _ _ _ _) (fun _ => rfl) trivial valc_len (fun y h => absurd h List.not_mem_nil) (by decide) (by decide) hby.size ?_; intro A8 c8 w8 ho8 hb8 hoo8)
          simp only [Nat.zero_add, List.nil_append, List.flatMap_nil] at ho8
          have hb28 := hby.trans hb8
          clear hown48 hoo8 hb8 hby
          have HT := Lib.hid (textsS_any (.slice Av nl cv) l w8 (((HV.out.doc HI.out HB2.out).below hb28)) (by rw [← HNL.out]; exact hl2))
          go_wp2_with fail
          refine HT.out.mono ?_
          rintro e w9 ⟨v9, rfl, ⟨A9, c9, rfl, ho9⟩, hb9⟩
          have HO9 := Lib.hid (show OT X w9 (.slice A9 l.length c9) l from OwnT.ot ⟨A9, c9, rfl, ho9⟩ (fun b hX => Nat.lt_of_lt_of_le (HI2.out.lo b hX) hb28.size))
          rw [← HNL.out] at HO9 ⊢
          have ho8' := own_below ho8 hb9
          have hb29 := hb28.trans (hb9.mono hb28.size)
          clear HT ho9 ho8 hb9 hb28
          go_upto_region 8 with (at_builtin; refine wpList_push rfl _ _ _ rfl Try.underlying22 hi hz0 hz1 hz2 rfl (by decide) ho8' rfl rfl rfl (by simp [Value.oneCell']) (by decide) (by decide) hb29.size ?_; intro A10 c10 w10 ho10 hb10 hoo10)
          have hb210 := hb29.trans hb10
          have c0 := (HB.out.below hb210).cell 0
          simp only [List.getElem?_toArray, List.getElem?_cons_succ, List.getElem?_cons_zero] at c0
          have HO10 := Lib.hid (HO9.out.others hoo10 (by decide))
          clear HO9 ho8' hb29 hb10 hoo10
          go_wp2_with (at_builtin; refine wpList_pushMem (enc := valc) (l := []) rfl _ _ _ rfl Try.underlying22 hi hz0 hz1 hz2 rfl (by decide) ho10 rfl rfl rfl (RdL.nil _ _ _ _) (fun _ => rfl) trivial valc_len (fun y h => absurd h List.not_mem_nil) (by decide) (by decide) hb210.size ?_; intro A11 c11 w11 ho11 hb11 hoo11; have hb211 := hb210.trans hb11; have c11' := (HB.out.below hb211).cell 0; have f11 := (HB.out.below hb211).frozen 0; simp only [List.getElem?_toArray, List.getElem?_cons_succ, List.getElem?_cons_zero] at c11')
          have HAF := Lib.hid (show AllG (OT X) w11 [(n, .slice A9 nl c9)] (putA n l x.vars) by
            rw [HPU.out]
            exact (AllG.nil (OT X) w11).snoc (HO10.out.others hoo11 (by decide)))
          have HS := Lib.hid ((HI2.out.below hb211).setVars (OG.of_own (us := [(n, .slice A9 nl c9)]) (by simpa [valc] using ho11) (by rw [HPU.out]; rfl) HAF.out HI2.out.lo) (sort_put HI.out.sv))
          clear ho11 HAF
          go_returns
          exact ⟨rfl, by rw [HG.out]; exact HS.out.1, (HB2.out.trans (But.of hb211)).trans HS.out.2⟩
    · obtain ⟨m, hm⟩ : ∃ m, m = M.length := ⟨_, rfl⟩
      rw [← hm] at hmc hml hb
      have hmb : m ≤ c := hmc
      have HB := Lib.hid hb
      have HM := Lib.hid hm
      have HR := Lib.hid hr
      have HA := Lib.hid ha
      have hcx : c ≤ 9223372036854775807 := by unfold maxLen at hcm; omega
      obtain ⟨Aa, ca, rfl⟩ := hva.form
      generalize x.args.length = na at *
      clear hb hvv hva hm hr ha hmc hcm h2 hb2
      go_wp2_with fail
      go_loopw [6] (fun i wr => ∃ k : Nat, k ≤ m ∧ i = .int .i64 k ∧ wr = w2 ∧ Hid (∀ j (_ : j < k) (h : j < M.length), M[j].1 < n)) (fun i _ => m - (intOf i).toNat)
      case atStart => exact ⟨0, Nat.zero_le _, rfl, rfl, Lib.hid (fun j h => absurd h (Nat.not_lt_zero _))⟩
      case round =>
        obtain ⟨k, hk, rfl, hwr, HK⟩ := hrel
        obtain rfl : w2 = wr := hwr.symm
        have c0 := HB.out.cell 0
        simp only [List.getElem?_toArray, List.getElem?_cons_succ, List.getElem?_cons_zero] at c0
        by_cases hlt : k < m
        · have hkM : k < M.length := by rw [← HM.out]; exact hlt
          have hkv : k < vs.length := by rw [HA.out.1]; exact hkM
          obtain ⟨b, o, hbo, _, hc⟩ := HR.out k hkv
          simp only [Option.some.injEq, Addr.mk.injEq, and_true] at hbo
          obtain ⟨rfl, rfl⟩ := hbo
          have q0 := hc 0 _ rfl
          rw [(HA.out.2 k hkv hkM).1] at q0
          obtain ⟨p, hp⟩ : ∃ p, p = M[k] := ⟨_, rfl⟩
          rw [← hp] at q0
          simp only [Nat.add_zero, Nat.zero_add] at q0
          have HP := Lib.hid (show ∀ h : k < M.length, M[k] = p from fun _ => hp.symm)
          clear hc hkv
          cases hb2 : Op.bytesLess p.1 n
          · have HLC := Lib.hid (lo_cut (n := n) (M := M) (k := k) (by omega) HK.out (fun h => by rw [HP.out h]; intro hh; rw [bytesLess_eq, decide_eq_true hh] at hb2; cases hb2))
            clear HK HP hp hkM
            go_upto_region 6 with (fail)
            clear hwr hb2 q0
            apply wp_region_relA 13 [eqT _, eqT _, eqT _, eqT _, eqT _, eqT _, mkV w2.heap.size 34 (m + 1), eqT _, eqT _, eqT _, eqT _, eqT _, eqT _] (by kernel_rfl) (by kernel_rfl) (by kernel_rfl) rfl
            focus
              refine ⟨?_, ?_⟩
              focus
                unfold opGoal
                rw [if_pos (by kernel_rfl)]
                intro x hb hd K hk
                clear hd
                go_wp2_with fail
                exact hk _ _ rfl trivial (Below.refl _ _)
              rintro _ rfl
              simp only [Act.put, List.setIfInBounds_toArray, List.set_cons_succ, List.set_cons_zero]
              refine ⟨?_, ?_⟩
              focus
                unfold opGoal
                rw [if_pos (by kernel_rfl)]
                intro x hb hd K hk
                clear hd
                go_wp2_with fail
                exact hk _ _ rfl trivial (Below.refl _ _)
              rintro _ rfl
              simp only [Act.put, List.setIfInBounds_toArray, List.set_cons_succ, List.set_cons_zero]
              refine ⟨?_, ?_⟩
              focus
                unfold opGoal
                rw [if_pos (by kernel_rfl)]
                intro x hb hd K hk
                clear hd
                go_wp2_with fail
                exact hk _ _ rfl trivial (Below.refl _ _)
              rintro _ rfl
              simp only [Act.put, List.setIfInBounds_toArray, List.set_cons_succ, List.set_cons_zero]
              refine ⟨?_, ?_⟩
              focus
                unfold opGoal
                rw [if_pos (by kernel_rfl)]
                intro x hb hd K hk
                clear hd
                have l0 := cell_keep hb c0
                go_wp2_with fail
                exact hk _ _ rfl trivial (Below.refl _ _)
              rintro _ rfl
              simp only [Act.put, List.setIfInBounds_toArray, List.set_cons_succ, List.set_cons_zero]
              refine ⟨?_, ?_⟩
              focus
                unfold opGoal
                rw [if_pos (by kernel_rfl)]
                intro x hb hd K hk
                clear hd
                go_wp2_with fail
                exact hk _ _ rfl trivial (Below.refl _ _)
              rintro _ rfl
              simp only [Act.put, List.setIfInBounds_toArray, List.set_cons_succ, List.set_cons_zero]
              refine ⟨?_, ?_⟩
              focus
                unfold opGoal
                rw [if_pos (by kernel_rfl)]
                intro x hb hd K hk
                clear hd
                go_wp2_with fail
                exact hk _ _ rfl trivial (Below.refl _ _)
              rintro _ rfl
              simp only [Act.put, List.setIfInBounds_toArray, List.set_cons_succ, List.set_cons_zero]
              refine ⟨?_, ?_⟩
              focus
                unfold opGoal
                rw [if_pos (by kernel_rfl)]
                intro x hb hd K hk
                clear hd
                go_wp2_with fail
                obtain ⟨w', hrun, r1, r2⟩ := run_make_own (P := Try.prog) (w := x) w2.heap.size 22 34 i0 _ 2 Try.underlying22 hi hz0 hz1 .i64 .i64 (m + 1) (by rw [hz2]; omega) (by simp only [maxLen]; omega) hb.size
                rw [show ((m : Int) + 1) = ((m + 1 : Nat) : Int) from by omega, hrun]
                exact hk _ _ ⟨_, rfl⟩ r1 ((Below.refl _ _).grown r2 (Nat.le_refl _) (fun k h => by cases h))
              rintro _ ⟨g48, rfl⟩
              simp only [Act.put, List.setIfInBounds_toArray, List.set_cons_succ, List.set_cons_zero]
              refine ⟨?_, ?_⟩
              focus
                unfold opGoal
                rw [if_pos (by kernel_rfl)]
                intro x hb hd K hk
                clear hd
                go_wp2_with fail
                exact hk _ _ rfl trivial (Below.refl _ _)
              rintro _ rfl
              simp only [Act.put, List.setIfInBounds_toArray, List.set_cons_succ, List.set_cons_zero]
              refine ⟨?_, ?_⟩
              focus
                unfold opGoal
                rw [if_pos (by kernel_rfl)]
                intro x hb hd K hk
                clear hd
                go_wp2_with fail
                exact hk _ _ rfl trivial (Below.refl _ _)
              rintro _ rfl
              simp only [Act.put, List.setIfInBounds_toArray, List.set_cons_succ, List.set_cons_zero]
              refine ⟨?_, ?_⟩
              focus
                unfold opGoal
                rw [if_pos (by kernel_rfl)]
                intro x hb hd K hk
                clear hd
                go_wp2_with fail
                exact hk _ _ rfl trivial (Below.refl _ _)
              rintro _ rfl
              simp only [Act.put, List.setIfInBounds_toArray, List.set_cons_succ, List.set_cons_zero]
              refine ⟨?_, ?_⟩
              focus
                unfold opGoal
                rw [if_pos (by kernel_rfl)]
                intro x hb hd K hk
                clear hd
                have l0 := cell_keep hb c0
                go_wp2_with fail
                exact hk _ _ rfl trivial (Below.refl _ _)
              rintro _ rfl
              simp only [Act.put, List.setIfInBounds_toArray, List.set_cons_succ, List.set_cons_zero]
              refine ⟨?_, ?_⟩
              focus
                unfold opGoal
                rw [if_pos (by kernel_rfl)]
                intro x hb hd K hk
                clear hd
                go_wp2_with fail
                exact hk _ _ rfl trivial (Below.refl _ _)
              rintro _ rfl
              simp only [Act.put, List.setIfInBounds_toArray, List.set_cons_succ, List.set_cons_zero]
              refine ⟨?_, ?_⟩
              focus
                unfold opGoal
                rw [if_pos (by kernel_rfl)]
                intro x hb hd K hk
                clear hd
                go_wp2_with fail
                exact hk _ _ rfl trivial (Below.refl _ _)
              rintro _ rfl
              simp only [Act.put, List.setIfInBounds_toArray, List.set_cons_succ, List.set_cons_zero]
              intro y hby hf
              simp only [List.drop_succ_cons, List.drop_zero]
              have hown48 : y.ownsRow w2.heap.size 34 2 (.slice (some ⟨g48, 0, none⟩) 0 (m + 1)) 0 [] := hf 6 _ _ rfl rfl
              clear hf c0
              have hrx := (HR.out.below hby).takes k
              have HLX := Lib.hid (show k = (vs.take k).length by rw [List.length_take, HA.out.1, ← HM.out]; omega)
              have hone := fun z hz => allg_one HA.out z (List.mem_of_mem_take (i := k) hz)
              go_upto_region 7 with (at_builtin; refine wpList_pushMem (enc := valc) rfl _ _ _ rfl Try.underlying22 hi hz0 hz1 hz2 rfl (by decide) hown48 rfl rfl HLX.out hrx (fun h => by cases h) trivial valc_len hone (by omega) (by decide) hby.size ?_; intro A8 c8 w8 ho8 hb8 hoo8)
              simp only [Nat.zero_add, List.nil_append] at ho8
              have hb28 := hby.trans hb8
              clear hrx hone hown48 hoo8 hb8 hby HLX
              have HT := Lib.hid (textsS_any (.slice Av nl cv) l w8 (((HV.out.doc HI.out HB2.out).below hb28)) (by rw [← HNL.out]; exact hl2))
              go_wp2_with fail
              refine HT.out.mono ?_
              rintro e w9 ⟨v9, rfl, ⟨A9, c9, rfl, ho9⟩, hb9⟩
              have HO9 := Lib.hid (show OT X w9 (.slice A9 l.length c9) l from OwnT.ot ⟨A9, c9, rfl, ho9⟩ (fun b hX => Nat.lt_of_lt_of_le (HI2.out.lo b hX) hb28.size))
              rw [← HNL.out] at HO9 ⊢
              have ho8' := own_below ho8 hb9
              have hb29 := hb28.trans (hb9.mono hb28.size)
              clear HT ho9 ho8 hb9 hb28
              go_upto_region 8 with (at_builtin; refine wpList_push rfl _ _ _ rfl Try.underlying22 hi hz0 hz1 hz2 rfl (by decide) ho8' rfl rfl rfl (by simp [Value.oneCell']) (by omega) (by decide) hb29.size ?_; intro A10 c10 w10 ho10 hb10 hoo10)
              have hb210 := hb29.trans hb10
              have c0 := (HB.out.below hb210).cell 0
              have f0 := (HB.out.below hb210).frozen 0
              simp only [List.getElem?_toArray, List.getElem?_cons_succ, List.getElem?_cons_zero] at c0
              have HO10 := Lib.hid (HO9.out.others hoo10 (by decide))
              have hrx := ((HR.out.below hb210).drops k)
              try simp only [Nat.zero_add] at hrx
              have HLX := Lib.hid (show m - k = (vs.drop k).length by rw [List.length_drop, HA.out.1, ← HM.out])
              have hone := fun z hz => allg_one HA.out z (List.mem_of_mem_drop (i := k) hz)
              clear HO9 ho8' hb29 hb10 hoo10
              go_wp2_with (at_builtin; refine wpList_pushMem (enc := valc) rfl _ _ _ rfl Try.underlying22 hi hz0 hz1 hz2 rfl (by decide) ho10 rfl rfl HLX.out hrx (fun h => by cases h) trivial valc_len hone (by omega) (by decide) hb210.size ?_; intro A11 c11 w11 ho11 hb11 hoo11; have hb211 := hb210.trans hb11; have c11' := (HB.out.below hb211).cell 0; have f11 := (HB.out.below hb211).frozen 0; simp only [List.getElem?_toArray, List.getElem?_cons_succ, List.getElem?_cons_zero] at c11')
              have HAF := Lib.hid (show AllG (OT X) w11 (vs.take k ++ [(n, .slice A9 nl c9)] ++ vs.drop k) (putA n l x.vars) by
                have h1 : AllG (OT X) w11 vs M := HA.out.mono fun v l h => OT.below h hb211
                have h2 := ((h1.take k).snoc (n := n) (HO10.out.others hoo11 (by decide))).append (h1.drop k)
                rw [HLC.out.1, HLC.out.2] at h2
                unfold putA
                rw [← HMV.out]
                simpa using h2)
              have hlen : k + 1 + (m - k) = (putA n l x.vars).length := by
                rw [← HAF.out.1]
                have := HA.out.1
                have := HM.out
                simp only [List.length_append, List.length_take, List.length_drop, List.length_cons, List.length_nil]
                omega
              have HS := Lib.hid ((HI2.out.below hb211).setVars (OG.of_own (us := vs.take k ++ [(n, .slice A9 nl c9)] ++ vs.drop k) (by simpa [List.flatMap_append, valc] using ho11) hlen HAF.out HI2.out.lo) (sort_put HI.out.sv))
              clear ho11 hlen HAF hrx hone
              go_returns
              exact ⟨rfl, by rw [HG.out]; exact HS.out.1, (HB2.out.trans (But.of hb211)).trans HS.out.2⟩
          · have HK2 := Lib.hid (show ∀ j (_ : j < k + 1) (h : j < M.length), M[j].1 < n from fun j h h' => by
              rcases Nat.lt_succ_iff_lt_or_eq.1 h with h | rfl
              · exact HK.out j h h'
              · rw [HP.out h']
                rw [bytesLess_eq] at hb2
                exact of_decide_eq_true hb2)
            clear HK HP hp hkM
            go_wp2_with fail
            go_roundw
            case rel => exact ⟨k + 1, by omega, by go_num, trivial, HK2⟩
            case measure => simp [intOf]; omega
        · have HLC := Lib.hid (lo_cut (n := n) (M := M) (k := k) (by rw [← HM.out]; exact hk) HK.out (fun h => absurd h (by rw [← HM.out]; exact hlt)))
          have HKM := Lib.hid (show m ≤ k by omega)
          clear HK hwr
          go_upto_region 6 with (fail)
          clear hlt
          apply wp_region_relA 13 [eqT _, eqT _, eqT _, eqT _, eqT _, eqT _, mkV w2.heap.size 34 (m + 1), eqT _, eqT _, eqT _, eqT _, eqT _, eqT _] (by kernel_rfl) (by kernel_rfl) (by kernel_rfl) rfl
          focus
            refine ⟨?_, ?_⟩
            focus
              unfold opGoal
              rw [if_pos (by kernel_rfl)]
              intro x hb hd K hk
              clear hd
              go_wp2_with fail
              exact hk _ _ rfl trivial (Below.refl _ _)
            rintro _ rfl
            simp only [Act.put, List.setIfInBounds_toArray, List.set_cons_succ, List.set_cons_zero]
            refine ⟨?_, ?_⟩
            focus
              unfold opGoal
              rw [if_pos (by kernel_rfl)]
              intro x hb hd K hk
              clear hd
              go_wp2_with fail
              exact hk _ _ rfl trivial (Below.refl _ _)
            rintro _ rfl
            simp only [Act.put, List.setIfInBounds_toArray, List.set_cons_succ, List.set_cons_zero]
            refine ⟨?_, ?_⟩
            focus
              unfold opGoal
              rw [if_pos (by kernel_rfl)]
              intro x hb hd K hk
              clear hd
              go_wp2_with fail
              exact hk _ _ rfl trivial (Below.refl _ _)
            rintro _ rfl
            simp only [Act.put, List.setIfInBounds_toArray, List.set_cons_succ, List.set_cons_zero]
            refine ⟨?_, ?_⟩
            focus
              unfold opGoal
              rw [if_pos (by kernel_rfl)]
              intro x hb hd K hk
              clear hd
              have l0 := cell_keep hb c0
              go_wp2_with fail
              exact hk _ _ rfl trivial (Below.refl _ _)
            rintro _ rfl
            simp only [Act.put, List.setIfInBounds_toArray, List.set_cons_succ, List.set_cons_zero]
            refine ⟨?_, ?_⟩
            focus
              unfold opGoal
              rw [if_pos (by kernel_rfl)]
              intro x hb hd K hk
              clear hd
              go_wp2_with fail
              exact hk _ _ rfl trivial (Below.refl _ _)
            rintro _ rfl
            simp only [Act.put, List.setIfInBounds_toArray, List.set_cons_succ, List.set_cons_zero]
            refine ⟨?_, ?_⟩
            focus
              unfold opGoal
              rw [if_pos (by kernel_rfl)]
              intro x hb hd K hk
              clear hd
              go_wp2_with fail
              exact hk _ _ rfl trivial (Below.refl _ _)
            rintro _ rfl
            simp only [Act.put, List.setIfInBounds_toArray, List.set_cons_succ, List.set_cons_zero]
            refine ⟨?_, ?_⟩
            focus
              unfold opGoal
              rw [if_pos (by kernel_rfl)]
              intro x hb hd K hk
              clear hd
              go_wp2_with fail
              obtain ⟨w', hrun, r1, r2⟩ := run_make_own (P := Try.prog) (w := x) w2.heap.size 22 34 i0 _ 2 Try.underlying22 hi hz0 hz1 .i64 .i64 (m + 1) (by rw [hz2]; omega) (by simp only [maxLen]; omega) hb.size
              rw [show ((m : Int) + 1) = ((m + 1 : Nat) : Int) from by omega, hrun]
              exact hk _ _ ⟨_, rfl⟩ r1 ((Below.refl _ _).grown r2 (Nat.le_refl _) (fun k h => by cases h))
            rintro _ ⟨g48, rfl⟩
            simp only [Act.put, List.setIfInBounds_toArray, List.set_cons_succ, List.set_cons_zero]
            refine ⟨?_, ?_⟩
            focus
              unfold opGoal
              rw [if_pos (by kernel_rfl)]
              intro x hb hd K hk
              clear hd
              go_wp2_with fail
              exact hk _ _ rfl trivial (Below.refl _ _)
            rintro _ rfl
            simp only [Act.put, List.setIfInBounds_toArray, List.set_cons_succ, List.set_cons_zero]
            refine ⟨?_, ?_⟩
            focus
              unfold opGoal
              rw [if_pos (by kernel_rfl)]
              intro x hb hd K hk
              clear hd
              go_wp2_with fail
              exact hk _ _ rfl trivial (Below.refl _ _)
            rintro _ rfl
            simp only [Act.put, List.setIfInBounds_toArray, List.set_cons_succ, List.set_cons_zero]
            refine ⟨?_, ?_⟩
            focus
              unfold opGoal
              rw [if_pos (by kernel_rfl)]
              intro x hb hd K hk
              clear hd
              go_wp2_with fail
              exact hk _ _ rfl trivial (Below.refl _ _)
            rintro _ rfl
            simp only [Act.put, List.setIfInBounds_toArray, List.set_cons_succ, List.set_cons_zero]
            refine ⟨?_, ?_⟩
            focus
              unfold opGoal
              rw [if_pos (by kernel_rfl)]
              intro x hb hd K hk
              clear hd
              have l0 := cell_keep hb c0
              go_wp2_with fail
              exact hk _ _ rfl trivial (Below.refl _ _)
            rintro _ rfl
            simp only [Act.put, List.setIfInBounds_toArray, List.set_cons_succ, List.set_cons_zero]
            refine ⟨?_, ?_⟩
            focus
              unfold opGoal
              rw [if_pos (by kernel_rfl)]
              intro x hb hd K hk
              clear hd
              go_wp2_with fail
              exact hk _ _ rfl trivial (Below.refl _ _)
            rintro _ rfl
            simp only [Act.put, List.setIfInBounds_toArray, List.set_cons_succ, List.set_cons_zero]
            refine ⟨?_, ?_⟩
            focus
              unfold opGoal
              rw [if_pos (by kernel_rfl)]
              intro x hb hd K hk
              clear hd
              go_wp2_with fail
              exact hk _ _ rfl trivial (Below.refl _ _)
            rintro _ rfl
            simp only [Act.put, List.setIfInBounds_toArray, List.set_cons_succ, List.set_cons_zero]
            intro y hby hf
            simp only [List.drop_succ_cons, List.drop_zero]
            have hown48 : y.ownsRow w2.heap.size 34 2 (.slice (some ⟨g48, 0, none⟩) 0 (m + 1)) 0 [] := hf 6 _ _ rfl rfl
            clear hf c0
            have hrx := (HR.out.below hby).takes k
            have HLX := Lib.hid (show k = (vs.take k).length by rw [List.length_take, HA.out.1, ← HM.out]; omega)
            have hone := fun z hz => allg_one HA.out z (List.mem_of_mem_take (i := k) hz)
            go_upto_region 7 with (at_builtin; refine wpList_pushMem (enc := valc) rfl _ _ _ rfl Try.underlying22 hi hz0 hz1 hz2 rfl (by decide) hown48 rfl rfl HLX.out hrx (fun h => by cases h) trivial valc_len hone (by omega) (by decide) hby.size ?_; intro A8 c8 w8 ho8 hb8 hoo8)
            simp only [Nat.zero_add, List.nil_append] at ho8
            have hb28 := hby.trans hb8
            clear hrx hone hown48 hoo8 hb8 hby HLX
            have HT := Lib.hid (textsS_any (.slice Av nl cv) l w8 (((HV.out.doc HI.out HB2.out).below hb28)) (by rw [← HNL.out]; exact hl2))
            go_wp2_with fail
            refine HT.out.mono ?_
            rintro e w9 ⟨v9, rfl, ⟨A9, c9, rfl, ho9⟩, hb9⟩
            have HO9 := Lib.hid (show OT X w9 (.slice A9 l.length c9) l from OwnT.ot ⟨A9, c9, rfl, ho9⟩ (fun b hX => Nat.lt_of_lt_of_le (HI2.out.lo b hX) hb28.size))
            rw [← HNL.out] at HO9 ⊢
            have ho8' := own_below ho8 hb9
            have hb29 := hb28.trans (hb9.mono hb28.size)
            clear HT ho9 ho8 hb9 hb28
            go_upto_region 8 with (at_builtin; refine wpList_push rfl _ _ _ rfl Try.underlying22 hi hz0 hz1 hz2 rfl (by decide) ho8' rfl rfl rfl (by simp [Value.oneCell']) (by omega) (by decide) hb29.size ?_; intro A10 c10 w10 ho10 hb10 hoo10)
            have hb210 := hb29.trans hb10
            have c0 := (HB.out.below hb210).cell 0
            have f0 := (HB.out.below hb210).frozen 0
            simp only [List.getElem?_toArray, List.getElem?_cons_succ, List.getElem?_cons_zero] at c0
            have HO10 := Lib.hid (HO9.out.others hoo10 (by decide))
          by_cases hck : c = k
          ·   have hrx := (show RdL w10 2 valc (some ⟨g, 0, none⟩) (vs.drop k) from fun j hj => absurd hj (by have := HKM.out; rw [List.length_drop, HA.out.1, ← HM.out]; omega))
              try simp only [Nat.zero_add] at hrx
              have HLX := Lib.hid (show m - k = (vs.drop k).length by rw [List.length_drop, HA.out.1, ← HM.out])
              have hone := fun z hz => allg_one HA.out z (List.mem_of_mem_drop (i := k) hz)
              clear HO9 ho8' hb29 hb10 hoo10
              go_wp2_with (at_builtin; refine wpList_pushMem (enc := valc) rfl _ _ _ rfl Try.underlying22 hi hz0 hz1 hz2 rfl (by decide) ho10 rfl rfl HLX.out hrx (fun h => by cases h) trivial valc_len hone (by omega) (by decide) hb210.size ?_; intro A11 c11 w11 ho11 hb11 hoo11; have hb211 := hb210.trans hb11; have c11' := (HB.out.below hb211).cell 0; have f11 := (HB.out.below hb211).frozen 0; simp only [List.getElem?_toArray, List.getElem?_cons_succ, List.getElem?_cons_zero] at c11')
              have HAF := Lib.hid (show AllG (OT X) w11 (vs.take k ++ [(n, .slice A9 nl c9)] ++ vs.drop k) (putA n l x.vars) by
                have h1 : AllG (OT X) w11 vs M := HA.out.mono fun v l h => OT.below h hb211
                have h2 := ((h1.take k).snoc (n := n) (HO10.out.others hoo11 (by decide))).append (h1.drop k)
                rw [HLC.out.1, HLC.out.2] at h2
                unfold putA
                rw [← HMV.out]
                simpa using h2)
              have hlen : k + 1 + (m - k) = (putA n l x.vars).length := by
                rw [← HAF.out.1]
                have := HA.out.1
                have := HM.out
                simp only [List.length_append, List.length_take, List.length_drop, List.length_cons, List.length_nil]
                omega
              have HS := Lib.hid ((HI2.out.below hb211).setVars (OG.of_own (us := vs.take k ++ [(n, .slice A9 nl c9)] ++ vs.drop k) (by simpa [List.flatMap_append, valc] using ho11) hlen HAF.out HI2.out.lo) (sort_put HI.out.sv))
              clear ho11 hlen HAF hrx hone
              go_returns
              exact ⟨rfl, by rw [HG.out]; exact HS.out.1, (HB2.out.trans (But.of hb211)).trans HS.out.2⟩
          ·   have hrx := ((HR.out.below hb210).drops k)
              try simp only [Nat.zero_add] at hrx
              have HLX := Lib.hid (show m - k = (vs.drop k).length by rw [List.length_drop, HA.out.1, ← HM.out])
              have hone := fun z hz => allg_one HA.out z (List.mem_of_mem_drop (i := k) hz)
              clear HO9 ho8' hb29 hb10 hoo10
              go_wp2_with (at_builtin; refine wpList_pushMem (enc := valc) rfl _ _ _ rfl Try.underlying22 hi hz0 hz1 hz2 rfl (by decide) ho10 rfl rfl HLX.out hrx (fun h => by cases h) trivial valc_len hone (by omega) (by decide) hb210.size ?_; intro A11 c11 w11 ho11 hb11 hoo11; have hb211 := hb210.trans hb11; have c11' := (HB.out.below hb211).cell 0; have f11 := (HB.out.below hb211).frozen 0; simp only [List.getElem?_toArray, List.getElem?_cons_succ, List.getElem?_cons_zero] at c11')
              have HAF := Lib.hid (show AllG (OT X) w11 (vs.take k ++ [(n, .slice A9 nl c9)] ++ vs.drop k) (putA n l x.vars) by
                have h1 : AllG (OT X) w11 vs M := HA.out.mono fun v l h => OT.below h hb211
                have h2 := ((h1.take k).snoc (n := n) (HO10.out.others hoo11 (by decide))).append (h1.drop k)
                rw [HLC.out.1, HLC.out.2] at h2
                unfold putA
                rw [← HMV.out]
                simpa using h2)
              have hlen : k + 1 + (m - k) = (putA n l x.vars).length := by
                rw [← HAF.out.1]
                have := HA.out.1
                have := HM.out
                simp only [List.length_append, List.length_take, List.length_drop, List.length_cons, List.length_nil]
                omega
              have HS := Lib.hid ((HI2.out.below hb211).setVars (OG.of_own (us := vs.take k ++ [(n, .slice A9 nl c9)] ++ vs.drop k) (by simpa [List.flatMap_append, valc] using ho11) hlen HAF.out HI2.out.lo) (sort_put HI.out.sv))
              clear ho11 hlen HAF hrx hone
              go_returns
              exact ⟨rfl, by rw [HG.out]; exact HS.out.1, (HB2.out.trans (But.of hb211)).trans HS.out.2⟩
  · have HG := Lib.hid (show setS x n l = ⟨x.vars, l⟩ by unfold setS; rw [if_pos (beq_iff_eq.1 hn)])
    have HT := Lib.hid (textsS_any v l w hv hl2)
    obtain ⟨vv, va, vf, hb, hvv, hva, _⟩ := h.blk
    obtain rfl : n = star := beq_iff_eq.1 hn
    have HB := Lib.hid hb
    have hn2 : (star == [42]) = true := hn
    obtain ⟨Av, cv, rfl, _⟩ := hv
    generalize hnl : l.length = nl at *
    have HNL := Lib.hid hnl
    clear hn hb hvv h hnl
    go_enter Try.func8, Try.ntmps8
    go_wp2_with fail
    refine HT.out.mono ?_
    rintro e w9 ⟨v9, rfl, ⟨A9, c9, rfl, ho9⟩, hb9⟩
    have HO9 : OT X w9 (.slice A9 l.length c9) l := OwnT.ot ⟨A9, c9, rfl, ho9⟩ HI.out.lo
    have HS := Lib.hid ((HI.out.below hb9).setArgs HO9)
    rw [HNL.out] at HS ⊢
    have f1 := (HB.out.below hb9).frozen 1
    have c1 := (HB.out.below hb9).cell 1
    simp only [List.getElem?_toArray, List.getElem?_cons_succ, List.getElem?_cons_zero] at c1
    obtain ⟨Aa, ca, rfl⟩ := hva.form
    generalize x.args.length = na at *
    clear HO9 ho9 HT
    go_wp2_with fail
    go_returns
    exact ⟨rfl, by rw [HG.out]; exact HS.out.1, (But.of hb9).trans HS.out.2⟩
end Go.Proofs.Ytcnkljbckpkgcaa
