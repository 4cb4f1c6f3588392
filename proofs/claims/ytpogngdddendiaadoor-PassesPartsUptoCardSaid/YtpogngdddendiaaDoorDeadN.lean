/- What chapter 18's statement rests on, on trees: a passed program may be, and no rule fits it anywhere. No condition. -/
import Derived.Test.YtpogngdddendiaaDoorHO
import Derived.Test.YtpogngdddendiaaDoorHH
set_option linter.unusedVariables false
set_option linter.unusedSimpArgs false
namespace Go.Proofs.YtpogngdddendiaaDoor

/- No rule fits anywhere. -/
mutual
def nfT : Tr → Bool
  | .mk kd n s ks => (ruleK kd ks).isNone && nfTs ks
def nfTs : List Tr → Bool
  | [] => true
  | t :: ts => nfT t && nfTs ts
end
theorem nfT_mk (kd n : Int) (s : List UInt8) (ks : List Tr) : nfT (.mk kd n s ks) = ((ruleK kd ks).isNone && nfTs ks) := by rw [nfT]
theorem nfTs_all : ∀ ts : List Tr, nfTs ts = true ↔ ∀ t ∈ ts, nfT t = true
  | [] => by simp [nfTs]
  | t :: ts => by rw [nfTs, Bool.and_eq_true, nfTs_all ts]; simp
theorem nf_kids {t : Tr} (h : nfT t = true) : ruleT t = none ∧ ∀ u ∈ t.kids, nfT u = true := by
  cases t with
  | mk kd n s ks =>
    rw [nfT_mk, Bool.and_eq_true, nfTs_all, Option.isNone_iff_eq_none] at h
    exact h
theorem nf_ofD {t : Tr} (h : ruleT t = none) (hk : ∀ u ∈ t.kids, nfT u = true) : nfT t = true := by
  cases t with
  | mk kd n s ks =>
    rw [nfT_mk, Bool.and_eq_true, nfTs_all, Option.isNone_iff_eq_none]
    exact ⟨h, hk⟩
mutual
theorem whole_id : ∀ t : Tr, nfT t = true → wholeT t = t
  | .mk kd n s ks, h => by
    have h1 := nf_kids h
    have h2 := wholes_id ks ((nfTs_all ks).2 h1.2)
    rw [wholeT_mk, h2, iter_none h1.1]
theorem wholes_id : ∀ ks : List Tr, nfTs ks = true → wholeTs ks = ks
  | [], _ => wholeTs_nil
  | t :: ts, h => by
    rw [nfTs, Bool.and_eq_true] at h
    rw [wholeTs_cons, whole_id t h.1, wholes_id ts h.2]
end
theorem seqAll_in : ∀ (ks : List Tr) (x : Tr), x ∈ seqAll ks → x ∈ ks ∨ ∃ t ∈ ks, t.kind = 23 ∧ x ∈ t.kids
  | [], x, h => by cases h
  | t :: ts, x, h => by
    rw [seqAll, List.mem_append] at h
    rcases h with h | h
    · split at h
      · rename_i hk
        exact .inr ⟨t, by simp, by simpa using hk, h⟩
      · rw [List.mem_singleton.1 h]; exact .inl (by simp)
    · rcases seqAll_in ts x h with h | ⟨u, hu, h⟩
      · exact .inl (by simp [h])
      · exact .inr ⟨u, by simp [hu], h⟩
theorem seqT_kids {P : Tr → Prop} (hP : ∀ t, P t → ∀ u ∈ t.kids, P u) : ∀ ts : List Tr, (∀ t ∈ ts, P t) → ∀ u ∈ (seqT ts).kids, P u
  | [], _, u, hu => by simp [seqT, nopT, Tr.kids] at hu
  | [t], h, u, hu => hP t (h t (by simp)) u hu
  | t :: t' :: ts, h, u, hu => h u hu
theorem nf_down (t : Tr) (h : nfT t = true) : ∀ u ∈ t.kids, nfT u = true := (nf_kids h).2
/-- What comes of a rule has children that no rule fits. -/
theorem rule_nf {t t' : Tr} (hk : ∀ u ∈ t.kids, nfT u = true) (h : ruleT t = some t') : ∀ u ∈ t'.kids, nfT u = true := by
  unfold ruleT ruleK at h
  split at h
  · unfold seqR at h
    split at h
    · cases h
    · injection h with h
      subst h
      refine seqT_kids nf_down _ fun x hx => ?_
      rcases seqAll_in _ x (dropN_mem _ x hx) with hx | ⟨v, hv, _, hx⟩
      · exact hk x hx
      · exact nf_down v (hk v hv) x hx
  · split at h
    · split at h
      · rename_i a b r he
        rw [he] at hk
        split at h
        · injection h with h
          subst h
          exact nf_down _ (hk _ (by simp))
        · split at h
          · split at h
            · rename_i x _ c _ hx
              injection h with h
              subst h
              have ha2 := nf_down a (hk a (by simp))
              rw [hx] at ha2
              intro u hu
              simp only [Tr.kids, List.mem_cons, List.not_mem_nil, or_false] at hu
              rcases hu with rfl | rfl | rfl
              · exact ha2 _ (by simp)
              · exact hk _ (by simp)
              · exact hk _ (by simp)
            · cases h
          · cases h
      · cases h
    · split at h
      · split at h
        · rename_i a r he
          rw [he] at hk
          split at h
          · injection h with h
            subst h
            exact nf_down _ (hk _ (by simp))
          · cases h
        · cases h
      · split at h
        · split at h
          · rename_i a r he
            rw [he] at hk
            split at h
            · split at h
              · rename_i x y hx
                split at h
                · injection h with h
                  subst h
                  have ha2 := nf_down a (hk a (by simp))
                  rw [hx] at ha2
                  exact nf_down _ (ha2 _ (by simp))
                · cases h
              · cases h
            · cases h
          · cases h
        · split at h
          · split at h
            · rename_i a b r he
              rw [he] at hk
              split at h
              · cases h
              · split at h
                · injection h with h
                  subst h
                  exact nf_down _ (hk _ (by simp))
                · split at h
                  all_goals
                    split at h
                    · injection h with h
                      subst h
                      exact nf_down _ (hk _ (by simp))
                    · cases h
            · cases h
          · split at h
            · split at h
              · split at h
                · injection h with h
                  subst h
                  intro u hu
                  simp [nopT, Tr.kids] at hu
                · cases h
              · cases h
            · cases h
theorem iter_nf : ∀ (n : Nat) (t : Tr), (∀ u ∈ t.kids, nfT u = true) → ∀ u ∈ (iterT n t).kids, nfT u = true
  | 0, t, h => h
  | n + 1, t, h => by
    cases hr : ruleT t with
    | none => rw [iter_none hr]; exact h
    | some t' => rw [iter_some hr]; exact iter_nf n t' (rule_nf h hr)
mutual
theorem whole_nf : ∀ t : Tr, arT t = true → nfT (wholeT t) = true
  | .mk kd n s ks, h => by
    rw [arT_mk, Bool.and_eq_true] at h
    have h1 := wholes_nf ks h.2
    obtain ⟨h2, h3, h4⟩ := wholeTs_ar ks h.2
    have ha : arT (.mk kd n s (wholeTs ks)) = true := by rw [arT_mk, h2, h4, h.1]; rfl
    obtain ⟨h5, _, _⟩ := iter_spec _ _ ha (Nat.le_refl _)
    rw [wholeT_mk]
    exact nf_ofD h5 (iter_nf _ _ ((nfTs_all _).1 h1))
theorem wholes_nf : ∀ ks : List Tr, arTs ks = true → nfTs (wholeTs ks) = true
  | [], _ => by rw [wholeTs_nil, nfTs]
  | t :: ts, h => by
    rw [arTs_cons, Bool.and_eq_true] at h
    rw [wholeTs_cons, nfTs, whole_nf t h.1, wholes_nf ts h.2]
    rfl
end
/-- A command's children, where all are commands. -/
theorem ok_cmds {d : Nat} {w : Bool} {t : Tr} (h : okT (d + 1) w t = true) (hk : t.kind = 23 ∨ t.kind = 24 ∨ t.kind = 25 ∨ t.kind = 26 ∨ t.kind = 27) : w = false ∧ ∀ u ∈ t.kids, okT d false u = true := by
  cases t with
  | mk kd n s ks =>
    simp only [Tr.kind] at hk
    rw [okT] at h
    simp only [Bool.and_eq_true] at h
    refine ⟨?_, ?_⟩
    · cases w
      · rfl
      · have h1 := h.1.1.1
        rcases hk with rfl | rfl | rfl | rfl | rfl <;> simp [kindB, wordB] at h1
    · rcases hk with rfl | rfl | rfl | rfl | rfl
      all_goals
        have h2 : okAll (fun _ t => okT d false t) 0 ks = true := h.2
        exact (okAll_forall ks 0).1 h2
theorem ok_pos {d : Nat} {w : Bool} {t : Tr} (h : okT d w t = true) : ∃ d', d = d' + 1 := by
  cases d with
  | zero => rw [okT] at h; cases h
  | succ d => exact ⟨d, rfl⟩
theorem ok_up {d : Nat} {w : Bool} {t : Tr} (h : okT d w t = true) : okT (d + 1) w t = true := okT_mono d w t h
theorem seqT_ok {d : Nat} : ∀ ts : List Tr, (∀ t ∈ ts, okT d false t = true) → okT (d + 1) false (seqT ts) = true
  | [], _ => by simp [seqT, nopT, okT, kindB, commandB, fieldsB, namedB, childrenB, okAll]
  | [t], h => ok_up (h t (by simp))
  | t :: t' :: ts, h => by
    show okT (d + 1) false (.mk 23 0 [] (t :: t' :: ts)) = true
    rw [okT]
    simp only [Bool.and_eq_true]
    refine ⟨⟨⟨by decide, by decide⟩, ?_⟩, (okAll_forall _ 0).2 h⟩
    simp [childrenB]
    omega
theorem nop_ok (d : Nat) : okT (d + 1) false nopT = true := seqT_ok [] (by simp)
/-- What comes of a rule may be where the node may. -/
theorem rule_ok {d : Nat} {w : Bool} {t t' : Tr} (ho : okT d w t = true) (h : ruleT t = some t') : okT d w t' = true := by
  obtain ⟨d, rfl⟩ := ok_pos ho
  unfold ruleT ruleK at h
  split at h
  · rename_i h23
    rw [beq_iff_eq] at h23
    obtain ⟨rfl, hk⟩ := ok_cmds ho (.inl h23)
    unfold seqR at h
    split at h
    · cases h
    · injection h with h
      subst h
      refine seqT_ok _ fun x hx => ?_
      rcases seqAll_in _ x (dropN_mem _ x hx) with hx | ⟨v, hv, hv2, hx⟩
      · exact hk x hx
      · have h1 := hk v hv
        obtain ⟨d, rfl⟩ := ok_pos h1
        exact ok_up ((ok_cmds h1 (.inl hv2)).2 x hx)
  · split at h
    · rename_i h2425
      rw [Bool.or_eq_true, beq_iff_eq, beq_iff_eq] at h2425
      obtain ⟨rfl, hk⟩ := ok_cmds ho (by rcases h2425 with h | h <;> simp [h])
      split at h
      · rename_i a b r he
        rw [he] at hk
        split at h
        · injection h with h
          subst h
          exact ok_up (hk _ (by simp))
        · split at h
          · rename_i h3
            rw [Bool.and_eq_true, beq_iff_eq, beq_iff_eq] at h3
            split at h
            · rename_i x _ c _ hx
              injection h with h
              subst h
              have h1 := hk a (by simp)
              obtain ⟨d, rfl⟩ := ok_pos h1
              have ha2 := (ok_cmds h1 (by simp [h3.2])).2
              rw [hx] at ha2
              rw [okT]
              simp only [Bool.and_eq_true]
              refine ⟨⟨⟨by decide, by decide⟩, (show childrenB 24 3 = true by decide)⟩, ?_⟩
              refine (okAll_forall (f := fun t => okT (d + 1) false t) _ 0).2 fun u hu => ?_
              simp only [List.mem_cons, List.not_mem_nil, or_false] at hu
              rcases hu with rfl | rfl | rfl
              · exact ok_up (ha2 _ (by simp))
              · exact hk _ (by simp)
              · exact hk _ (by simp)
            · cases h
          · cases h
      · cases h
    · split at h
      · rename_i h26
        rw [beq_iff_eq] at h26
        obtain ⟨rfl, hk⟩ := ok_cmds ho (by simp [h26])
        split at h
        · rename_i a r he
          rw [he] at hk
          split at h
          · injection h with h
            subst h
            exact ok_up (hk _ (by simp))
          · cases h
        · cases h
      · split at h
        · rename_i h27
          rw [beq_iff_eq] at h27
          obtain ⟨rfl, hk⟩ := ok_cmds ho (by simp [h27])
          split at h
          · rename_i a r he
            rw [he] at hk
            split at h
            · rename_i ha27
              rw [beq_iff_eq] at ha27
              split at h
              · rename_i x y hx
                split at h
                · injection h with h
                  subst h
                  have h1 := hk a (by simp)
                  obtain ⟨d, rfl⟩ := ok_pos h1
                  have ha2 := (ok_cmds h1 (by simp [ha27])).2
                  rw [hx] at ha2
                  exact ok_up (ok_up (ha2 _ (by simp)))
                · cases h
              · cases h
            · cases h
          · cases h
        · split at h
          · rename_i h3435
            have hb : ∀ b, t.kids[1]? = some b → okT d false b = true ∧ w = false := by
              intro b hb
              rw [Bool.or_eq_true, beq_iff_eq, beq_iff_eq] at h3435
              cases t with
              | mk kd n s ks =>
                simp only [Tr.kind, Tr.kids] at h3435 hb
                rw [okT] at ho
                simp only [Bool.and_eq_true] at ho
                obtain ⟨⟨⟨o1, _⟩, _⟩, o2⟩ := ho
                rcases ks with _ | ⟨a, _ | ⟨b', r⟩⟩
                · simp at hb
                · simp at hb
                · simp only [List.getElem?_cons_succ, List.getElem?_cons_zero, Option.some.injEq] at hb
                  subst hb
                  simp only [okAll, Bool.and_eq_true] at o2
                  rcases h3435 with rfl | rfl
                  · refine ⟨o2.2.1, ?_⟩
                    cases w
                    · rfl
                    · simp [kindB, wordB] at o1
                  · refine ⟨o2.2.1, ?_⟩
                    cases w
                    · rfl
                    · simp [kindB, wordB] at o1
            split at h
            · rename_i a b r he
              obtain ⟨hb1, rfl⟩ := hb b (by rw [he]; rfl)
              split at h
              · cases h
              · split at h
                · injection h with h
                  subst h
                  exact ok_up hb1
                · split at h
                  all_goals
                    split at h
                    · injection h with h
                      subst h
                      exact ok_up hb1
                    · cases h
            · cases h
          · split at h
            · rename_i h30
              rw [beq_iff_eq] at h30
              have hw : w = false := by
                cases w
                · rfl
                · cases t with
                  | mk kd n s ks =>
                    simp only [Tr.kind] at h30
                    subst h30
                    rw [okT] at ho
                    simp [kindB, wordB] at ho
              subst hw
              split at h
              · split at h
                · injection h with h
                  subst h
                  exact nop_ok d
                · cases h
              · cases h
            · cases h
theorem iter_ok {d : Nat} {w : Bool} : ∀ (n : Nat) (t : Tr), okT d w t = true → okT d w (iterT n t) = true
  | 0, t, h => h
  | n + 1, t, h => by
    cases hr : ruleT t with
    | none => rw [iter_none hr]; exact h
    | some t' => rw [iter_some hr]; exact iter_ok n t' (rule_ok h hr)
/-- A passed program may be. -/
theorem whole_ok : ∀ (d : Nat) (w : Bool) (t : Tr), okT d w t = true → okT d w (wholeT t) = true
  | 0, w, t, h => by rw [okT] at h; cases h
  | d + 1, w, .mk kd n s ks, h => by
    rw [wholeT_mk]
    refine iter_ok _ _ ?_
    rw [okT] at h ⊢
    simp only [Bool.and_eq_true] at h ⊢
    rw [wholeTs_map, List.length_map]
    exact ⟨h.1, okAll_map ks 0 (fun t _ k h => whole_ok d _ t h) h.2⟩
theorem dropN_full : ∀ (ks : List Tr), (dropN ks).length = ks.length → ∀ j (h : j < ks.length), j + 1 < ks.length → ks[j].kind ≠ 20
  | [], _, j, h, _ => by simp at h
  | [t], _, j, h, h2 => by simp at h2
  | t :: u :: ts, hl, j, h, h2 => by
    have h3 := (dropN_size (u :: ts)).2
    rw [dropN] at hl
    split at hl
    · simp only [List.length_cons] at hl h3
      omega
    · rename_i hk
      cases j with
      | zero => simpa using hk
      | succ j =>
        simp only [List.length_cons] at hl
        exact dropN_full (u :: ts) (by simp only [List.length_cons]; omega) j (by simpa using h) (by simpa using h2)
/-- What the statement asks of a node's child. -/
def badKid (kd kind : Int) (j n : Nat) : Bool := kd == 23 && (kind == 23 || kind == 20 && decide (j + 1 < n)) || kd == 24 && decide (j = 0) && (kind == 20 || kind == 27) || (kd == 25 || kd == 26) && decide (j = 0) && kind == 20
theorem nf_kid {t : Tr} (ha : arT t = true) (h : ruleT t = none) (j : Nat) (hj : j < t.kids.length) : badKid t.kind t.kids[j].kind j t.kids.length = false := by
  obtain ⟨hc, hk⟩ := ar_kids ha
  cases hq : badKid t.kind t.kids[j].kind j t.kids.length with
  | false => rfl
  | true =>
    exfalso
    unfold badKid at hq
    simp only [Bool.or_eq_true, Bool.and_eq_true, beq_iff_eq, decide_eq_true_eq] at hq
    unfold ruleT ruleK at h
    rcases hq with (⟨h23, hq⟩ | ⟨⟨h24, rfl⟩, hq⟩) | ⟨⟨h25, rfl⟩, hq⟩
    · rw [if_pos (by rw [beq_iff_eq]; exact h23)] at h
      unfold seqR at h
      split at h
      · rename_i hl
        simp only [Bool.and_eq_true, beq_iff_eq] at hl
        have h3 := seqAll_len t.kids hk
        have h4 : (t.kids.countP fun t => t.kind == 23) = 0 := by omega
        rcases hq with hq | hq
        · have := List.countP_eq_zero.1 h4 _ (List.getElem_mem hj)
          simp [hq] at this
        · rw [seqAll_same _ h4] at hl
          exact dropN_full _ hl.1 j hj hq.2 hq.1
      · cases h
    · rw [h24] at hc h
      simp only [childrenB] at hc
      simp at hc
      rcases hks : t.kids with _ | ⟨a, _ | ⟨b, _ | ⟨c, r⟩⟩⟩
      · rw [hks] at hj; simp at hj
      · rw [hks] at hc; simp at hc
      · rw [hks] at hc; simp at hc
      · simp only [hks, List.getElem_cons_zero] at hq h hk
        rcases hq with hq | hq
        · simp [hq] at h
        · have ha2 := (ar_kids (hk a (by simp))).1
          rw [hq] at ha2
          simp [childrenB] at ha2
          rcases hak : a.kids with _ | ⟨x, y⟩
          · rw [hak] at ha2; simp at ha2
          · simp [hq, hak] at h
    · rcases hks : t.kids with _ | ⟨a, r⟩
      · rw [hks] at hj; simp at hj
      · simp only [hks, List.getElem_cons_zero] at hq h hk hc
        rcases h25 with h25 | h25
        · rw [h25] at hc h
          simp [childrenB] at hc
          rcases r with _ | ⟨b, r⟩
          · simp at hc
          · simp [hq] at h
        · rw [h25] at h
          simp [hq] at h
end Go.Proofs.YtpogngdddendiaaDoor
