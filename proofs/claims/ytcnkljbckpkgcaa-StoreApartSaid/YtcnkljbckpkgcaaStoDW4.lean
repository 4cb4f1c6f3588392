/- The walk over the document's store: SetFun. Bounds on the lengths. -/
import Derived.Test.YtcnkljbckpkgcaaStoDW2
import Derived.Test.YtcnkljbckpkgcaaStoN
import Derived.BigQuiet
set_option linter.unusedVariables false
set_option linter.unusedSimpArgs false
namespace Go.Proofs.Ytcnkljbckpkgcaa
open Go.RowKit Go.Maps Go.Sort
variable {X : Nat → Prop}

section
variable {α : Type} (n : Txt) (l : α)
def insF : List (Txt × α) → List (Txt × α)
  | [] => [(n, l)]
  | p :: M => if p.1 < n then p :: insF M else (n, l) :: delA n (p :: M)
def insG (d : Bool) (M : List (Txt × α)) : List (Txt × α) := if d then delA n M else insF n l M
theorem del_cons (p : Txt × α) (M : List (Txt × α)) : delA n (p :: M) = if p.1 = n then delA n M else p :: delA n M := by
  unfold delA
  rw [List.filter_cons]
  by_cases h : p.1 = n <;> simp [h]
theorem lo_none : ∀ {M : List (Txt × α)}, (∀ q ∈ M, ¬ q.1 < n) → loA n M = [] ∧ hiA n M = M
  | [], _ => ⟨rfl, rfl⟩
  | p :: M, h => by
    have := h p (List.mem_cons_self ..)
    unfold loA hiA
    rw [List.takeWhile_cons_of_neg (by simpa using this), List.dropWhile_cons_of_neg (by simpa using this)]
    exact ⟨rfl, rfl⟩
theorem ins_put : ∀ {M : List (Txt × α)}, SortA M → insF n l M = putA n l M
  | [], _ => rfl
  | p :: M, h => by
    unfold SortA at h
    rw [List.pairwise_cons] at h
    rw [insF]
    by_cases hp : p.1 < n
    · have hne : p.1 ≠ n := fun e => by rw [e] at hp; exact List.lt_irrefl _ hp
      rw [if_pos hp, ins_put h.2]
      unfold putA
      rw [del_cons, if_neg hne]
      unfold loA hiA
      rw [List.takeWhile_cons_of_pos (by simpa using hp), List.dropWhile_cons_of_pos (by simpa using hp)]
      rfl
    · rw [if_neg hp]
      have hall : ∀ q ∈ delA n (p :: M), ¬ q.1 < n := fun q hq hlt => by
        have hq' : q ∈ p :: M := (List.mem_filter.1 hq).1
        rcases List.mem_cons.1 hq' with rfl | hq'
        · exact hp hlt
        · exact hp (List.lt_trans (h.1 q hq') hlt)
      obtain ⟨h1, h2⟩ := lo_none n hall
      unfold putA
      rw [h1, h2]
      rfl
theorem ins_d (p : Txt × α) (M : List (Txt × α)) : insG n l true (p :: M) = if p.1 = n then insG n l true M else p :: insG n l true M := del_cons n p M
theorem ins_lt {p : Txt × α} {M : List (Txt × α)} (h : p.1 < n) : insG n l false (p :: M) = p :: insG n l false M := by
  show insF n l (p :: M) = p :: insF n l M
  rw [insF, if_pos h]
theorem ins_ge {p : Txt × α} {M : List (Txt × α)} (h : ¬ p.1 < n) : insG n l false (p :: M) = (n, l) :: insG n l true (p :: M) := by
  show insF n l (p :: M) = _
  rw [insF, if_neg h]
  rfl
end
theorem infoFun : (Try.prog.info? 69).map (fun i => (i.zero, i.size, i.bytes)) = some (some (.agg #[.string ByteArray.empty, .slice none 0 0]), 2, 40) := by kernel_rfl
theorem ON.others' {w w' : World} {v : Value} {L : List Nd} (h : ON X w v L) (ho : Others [69] w w') : ON X w' v L := h.others ho (by decide)
set_option maxRecDepth 100000 in
set_option maxHeartbeats 8000000 in
theorem dsetfun_any (xb : Nat) (x : Sto) (F : List (Txt × List Nd)) (n : Txt) (v : Value) (l : List Nd) (w : World) (h : DocI X w xb x F) (hv : SlRd w v l) (hl : F.length ≤ 100000) (hl2 : l.length ≤ 2000000) :
    Calls Try.prog 30 #[.pointer (some ⟨xb, 0, none⟩), .string ⟨n.toArray⟩, v] w (DSetRet X xb x (putA n l F) w) := by
  obtain ⟨i0, hi, hz0, hz1, hz2⟩ := info_parts infoFun
  obtain ⟨vv, va, vf, hb, hvv, hva, hvf⟩ := h.blk
  have HI := Lib.hid h
  have HB := Lib.hid hb
  have HPU := Lib.hid (show insG n l false F = putA n l F from ins_put n l h.sf)
  have HSP := Lib.hid (show SortA (putA n l F) from sort_put h.sf)
  obtain ⟨A, c, vs, rfl, hr, ha, _⟩ := hvf.rd
  obtain ⟨m, hm⟩ : ∃ m, m = F.length := ⟨_, rfl⟩
  rw [← hm] at HB hl
  have HM := Lib.hid hm
  have HR := Lib.hid hr
  have HA := Lib.hid ha
  have HN := Lib.hid (fun (W : World) (hW : Below w.heap.size w W) => nodesS_any v l W (hv.below hW) hl2)
  obtain ⟨Av, cv, rfl, _⟩ := hv
  obtain ⟨nl, hnl⟩ : ∃ nl, nl = l.length := ⟨_, rfl⟩
  rw [← hnl] at HN hl2 ⊢
  have HNL := Lib.hid hnl
  obtain ⟨AV, cV, rfl⟩ := hvv.form
  obtain ⟨Aa, ca, rfl⟩ := hva.form
  generalize x.args.length = na at *
  generalize x.vars.length = nv at *
  clear hb hvv hva hvf hm hr ha hnl h
  go_enter Try.func30, Try.ntmps30
  go_wp2_with fail
  go_loopw [6, 7, 8] (fun u d j wr => ∃ (k q : Nat) (A' : Option Addr) (c' : Nat) (us : List (Txt × Value)) (O : List (Txt × List Nd)) (db : Bool), k ≤ m ∧ q ≤ 2 * k + 1 ∧ j = .int .i64 k ∧ u = .slice A' q c' ∧ d = .bool db ∧ wr.ownsRow w.heap.size 69 2 (.slice A' q c') q (us.flatMap valc) ∧ Hid (AllG (ON X) wr us O ∧ q = O.length ∧ O ++ insG n l db (F.drop k) = putA n l F) ∧ Below w.heap.size w wr) (fun _ _ j _ => m - (intOf j).toNat)
  case atStart => exact ⟨0, 0, none, 0, [], [], false, Nat.zero_le _, Nat.zero_le _, rfl, rfl, rfl, World.ownsRow_nil _ _ _ _, Lib.hid ⟨AllG.nil _ _, rfl, HPU.out⟩, Below.refl _ _⟩
  case round =>
    obtain ⟨k, q, A', c', us, O, db, hk, hqk, rfl, rfl, rfl, hown, HAL, hbr⟩ := hrel
    have c0 := (HB.out.below hbr).cell 2
    simp only [List.getElem?_toArray, List.getElem?_cons_succ, List.getElem?_cons_zero] at c0
    by_cases hlt : k < m
    · have hkM : k < F.length := by rw [← HM.out]; exact hlt
      have hkv : k < vs.length := by rw [HA.out.1]; exact hkM
      obtain ⟨b, o, rfl, _, hc⟩ := HR.out k hkv
      have z0 := hc 0 _ rfl
      have z1 := hc 1 _ rfl
      obtain ⟨e1, e2⟩ := HA.out.2 k hkv hkM
      rw [e1] at z0
      obtain ⟨u, hu⟩ : ∃ u, u = vs[k].2 := ⟨_, rfl⟩
      rw [← hu] at z1 e2
      have hds := List.drop_eq_getElem_cons hkM
      obtain ⟨p, hp⟩ : ∃ p, p = F[k] := ⟨_, rfl⟩
      rw [← hp] at z0 e2 hds
      rw [hds] at HAL
      obtain ⟨Au, cu, rfl⟩ := e2.form
      simp only [Nat.add_zero] at z0
      have HE := Lib.hid e2
      clear hc hu hp e1 e2 hkM hkv hds
      obtain ⟨p1, p2⟩ := p
      generalize hpl : p2.length = pl at *
      have HPL := Lib.hid hpl
      have HQ := Lib.hid (fun (W : World) (hW : Below w.heap.size w W) => And.intro (cell_keep hW z0) (cell_keep hW z1))
      obtain ⟨q0, q1⟩ := HQ.out wr hbr
      clear hpl z0 z1
      cases db
      · cases hb2 : Op.bytesLess p1 n
        · rw [ins_ge n l (p := (p1, p2)) (by intro h; rw [bytesLess_eq, decide_eq_true h] at hb2; cases hb2), ins_d] at HAL
          go_wp2_with fail
          refine (HN.out wr hbr).mono ?_
          rintro e w3 ⟨v3, rfl, ⟨A3, c3, rfl, ho3⟩, hb3⟩
          have HO3 := Lib.hid (show ON X w3 (.slice A3 l.length c3) l from OwnN.on ⟨A3, c3, rfl, ho3⟩ (fun b hX => Nat.lt_of_lt_of_le (HI.out.lo b hX) hbr.size))
          rw [← HNL.out] at HO3 ⊢
          have hown3 := own_below hown hb3
          have hbr3 := hbr.trans (hb3.mono hbr.size)
          have HB3 := Lib.hid hb3
          clear hown ho3 hb3 c0 q0 q1
          go_upto_region 7 with (at_builtin; refine wpList_push rfl _ _ _ rfl Try.underlying30 hi hz0 hz1 hz2 rfl (by decide) hown3 rfl rfl rfl (by simp [Value.oneCell']) (by omega) (by decide) hbr3.size ?_; intro A4 c4 w4 hown4 hb4 hoo4)
          have hbr4 := hbr3.trans hb4
          have HA4 := Lib.hid (show AllG (ON X) w4 (us ++ [(n, Value.slice A3 nl c3)]) (O ++ [(n, l)]) from (HAL.out.1.mono fun v l h => ON.others' (h.below HB3.out) hoo4).snoc (ON.others' HO3.out hoo4))
          have hown4' : w4.ownsRow w.heap.size 69 2 (.slice A4 (q + 1) c4) (q + 1) ((us ++ [(n, Value.slice A3 nl c3)]).flatMap valc) := by rw [List.flatMap_append]; simpa [valc] using hown4
          obtain ⟨q0, q1⟩ := HQ.out w4 hbr4
          have c0 := (HB.out.below hbr4).cell 2
          simp only [List.getElem?_toArray, List.getElem?_cons_succ, List.getElem?_cons_zero] at c0
          clear hown3 hbr3 hown4 hb4 hoo4 HO3 HB3
          cases hpn : (p1 == n)
          · have hpn2 : (p1 != n) = true := by simp [bne, hpn]
            rw [if_neg (fun e => by have e' : p1 = n := e; rw [e'] at hpn; simp at hpn)] at HAL
            have HE4 := Lib.hid (HE.out.below hbr4)
            go_wp2_with (at_builtin; refine wpList_push rfl _ _ _ rfl Try.underlying30 hi hz0 hz1 hz2 rfl (by decide) hown4' rfl rfl rfl (by simp [Value.oneCell']) (by omega) (by decide) hbr4.size ?_; intro A5 c5 w6 hown6 hb6 hoo6)
            go_roundw
            case rel =>
              refine ⟨k + 1, q + 1 + 1, A5, c5, us ++ [(n, Value.slice A3 nl c3)] ++ [(p1, .slice Au pl cu)], O ++ [(n, l)] ++ [(p1, p2)], true, by omega, by omega, by go_num, rfl, rfl, by rw [List.flatMap_append]; simpa [valc] using hown6, Lib.hid ⟨?_, by rw [List.length_append, List.length_append, ← HAL.out.2.1]; rfl, by rw [← HAL.out.2.2, List.append_assoc, List.append_assoc]; rfl⟩, hbr4.trans hb6⟩
              exact (HA4.out.mono fun v l h => ON.others' h hoo6).snoc (ON.others' HE4.out hoo6)
            case measure => simp [intOf]; omega
          · have hpn2 : (p1 != n) = false := by simp [bne, hpn]
            rw [if_pos (beq_iff_eq.1 hpn)] at HAL
            go_wp2_with fail
            go_roundw
            case rel => exact ⟨k + 1, q + 1, A4, c4, us ++ [(n, Value.slice A3 nl c3)], O ++ [(n, l)], true, by omega, by omega, by go_num, rfl, rfl, hown4', Lib.hid ⟨HA4.out, by rw [List.length_append, ← HAL.out.2.1]; rfl, by rw [← HAL.out.2.2, List.append_assoc]; rfl⟩, hbr4⟩
            case measure => simp [intOf]; omega
        · have hlt2 : p1 < n := by rw [bytesLess_eq] at hb2; exact of_decide_eq_true hb2
          have hpn : (p1 == n) = false := by
            cases h : (p1 == n)
            · rfl
            · rw [beq_iff_eq.1 h] at hlt2; exact absurd hlt2 (List.lt_irrefl _)
          have hpn2 : (p1 != n) = true := by simp [bne, hpn]
          rw [ins_lt n l (p := (p1, p2)) hlt2] at HAL
          clear hlt2
          go_wp2_with (at_builtin; refine wpList_push rfl _ _ _ rfl Try.underlying30 hi hz0 hz1 hz2 rfl (by decide) hown rfl rfl rfl (by simp [Value.oneCell']) (by omega) (by decide) hbr.size ?_; intro A4 c4 w6 hown6 hb6 hoo6)
          go_roundw
          case rel =>
            refine ⟨k + 1, q + 1, A4, c4, us ++ [(p1, .slice Au pl cu)], O ++ [(p1, p2)], false, by omega, by omega, by go_num, rfl, rfl, by rw [List.flatMap_append]; simpa [valc] using hown6, Lib.hid ⟨?_, by rw [List.length_append, ← HAL.out.2.1]; rfl, by rw [← HAL.out.2.2, List.append_assoc]; rfl⟩, hbr.trans hb6⟩
            exact (HAL.out.1.mono fun v l h => ON.others' h hoo6).snoc (ON.others' (HE.out.below hbr) hoo6)
          case measure => simp [intOf]; omega
      · rw [ins_d] at HAL
        cases hpn : (p1 == n)
        · have hpn2 : (p1 != n) = true := by simp [bne, hpn]
          rw [if_neg (fun e => by have e' : p1 = n := e; rw [e'] at hpn; simp at hpn)] at HAL
          go_wp2_with (at_builtin; refine wpList_push rfl _ _ _ rfl Try.underlying30 hi hz0 hz1 hz2 rfl (by decide) hown rfl rfl rfl (by simp [Value.oneCell']) (by omega) (by decide) hbr.size ?_; intro A4 c4 w6 hown6 hb6 hoo6)
          go_roundw
          case rel =>
            refine ⟨k + 1, q + 1, A4, c4, us ++ [(p1, .slice Au pl cu)], O ++ [(p1, p2)], true, by omega, by omega, by go_num, rfl, rfl, by rw [List.flatMap_append]; simpa [valc] using hown6, Lib.hid ⟨?_, by rw [List.length_append, ← HAL.out.2.1]; rfl, by rw [← HAL.out.2.2, List.append_assoc]; rfl⟩, hbr.trans hb6⟩
            exact (HAL.out.1.mono fun v l h => ON.others' h hoo6).snoc (ON.others' (HE.out.below hbr) hoo6)
          case measure => simp [intOf]; omega
        · have hpn2 : (p1 != n) = false := by simp [bne, hpn]
          rw [if_pos (beq_iff_eq.1 hpn)] at HAL
          go_wp2_with fail
          go_roundw
          case rel => exact ⟨k + 1, q, A', c', us, O, true, by omega, by omega, by go_num, rfl, rfl, hown, HAL, hbr⟩
          case measure => simp [intOf]; omega
    · obtain rfl : k = m := by omega
      rw [List.drop_of_length_le (by rw [← HM.out]; exact Nat.le_refl _)] at HAL
      cases db
      · have HO := Lib.hid (show O ++ [(n, l)] = putA n l F from HAL.out.2.2)
        go_wp2_with fail
        refine (HN.out wr hbr).mono ?_
        rintro e w3 ⟨v3, rfl, ⟨A3, c3, rfl, ho3⟩, hb3⟩
        have HO3 := Lib.hid (show ON X w3 (.slice A3 l.length c3) l from OwnN.on ⟨A3, c3, rfl, ho3⟩ (fun b hX => Nat.lt_of_lt_of_le (HI.out.lo b hX) hbr.size))
        rw [← HNL.out] at HO3 ⊢
        have hown3 := own_below hown hb3
        have hbr3 := hbr.trans (hb3.mono hbr.size)
        have HB3 := Lib.hid hb3
        clear hown ho3 hb3 c0
        go_upto_region 12 with (at_builtin; refine wpList_push rfl _ _ _ rfl Try.underlying30 hi hz0 hz1 hz2 rfl (by decide) hown3 rfl rfl rfl (by simp [Value.oneCell']) (by omega) (by decide) hbr3.size ?_; intro A4 c4 w4 hown4 hb4 hoo4)
        have hbr4 := hbr3.trans hb4
        have HA4 := Lib.hid (show AllG (ON X) w4 (us ++ [(n, Value.slice A3 nl c3)]) (putA n l F) by
          rw [← HO.out]
          exact (HAL.out.1.mono fun v l h => ON.others' (h.below HB3.out) hoo4).snoc (ON.others' HO3.out hoo4))
        have HS := Lib.hid ((HI.out.below hbr4).setFuns (OG.of_own (us := us ++ [(n, Value.slice A3 nl c3)]) (M := putA n l F) (by rw [List.flatMap_append]; simpa [valc] using hown4) (by rw [← HO.out, List.length_append, ← HAL.out.2.1]; rfl) HA4.out HI.out.lo) HSP.out)
        have f0 := (HB.out.below hbr4).frozen 2
        have c0 := (HB.out.below hbr4).cell 2
        simp only [List.getElem?_toArray, List.getElem?_cons_succ, List.getElem?_cons_zero] at c0
        clear HAL hown3 hown4 HA4 hoo4
        go_wp2_with fail
        go_returns
        exact ⟨rfl, HS.out.1, (But.of hbr4).trans HS.out.2⟩
      · have HS := Lib.hid ((HI.out.below hbr).setFuns (OG.of_own (M := putA n l F) hown (by rw [← HAL.out.2.2]; show _ = (O ++ []).length; rw [List.append_nil]; exact HAL.out.2.1) (by rw [← HAL.out.2.2]; show AllG _ _ _ (O ++ []); rw [List.append_nil]; exact HAL.out.1) HI.out.lo) HSP.out)
        have f0 := (HB.out.below hbr).frozen 2
        clear HAL hown
        go_wp2_with fail
        go_returns
        exact ⟨rfl, HS.out.1, (But.of hbr).trans HS.out.2⟩
end Go.Proofs.Ytcnkljbckpkgcaa
