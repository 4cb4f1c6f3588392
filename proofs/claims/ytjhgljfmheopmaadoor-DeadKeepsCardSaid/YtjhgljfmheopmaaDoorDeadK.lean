/- What is kept (chapter 18), on trees, with no program in sight. No condition. -/
import Derived.Test.YtjhgljfmheopmaaDoorDeadL
set_option linter.unusedVariables false
set_option linter.unusedSimpArgs false
namespace Go.Proofs.YtjhgljfmheopmaaDoor

def callS (s : List UInt8) : Tr := .mk 21 0 [] [.mk 1 0 s []]
/-- the five commands -/
def cmdN (j : Nat) (s : List UInt8) : Tr :=
  if j = 0 then nopT else if j = 1 then .mk 33 2 [] [.mk 1 0 s [], nopT] else if j = 2 then .mk 32 0 [] [callS s, nopT] else if j = 3 then .mk 31 0 [102] [callS s] else callS s
def Cmd (t : Tr) : Prop := ∃ j s, j < 5 ∧ s.length ≤ 100 ∧ t = cmdN j s
theorem whole_fix {kd n : Int} {s : List UInt8} {ks : List Tr} (hk : ∀ t ∈ ks, wholeT t = t) (hr : ruleK kd ks = none) : wholeT (.mk kd n s ks) = .mk kd n s ks := by
  have h : wholeTs ks = ks := by
    rw [wholeTs_map]
    exact (List.map_congr_left hk).trans (List.map_id ks)
  rw [wholeT_mk, h]
  exact iter_none hr
theorem whole_nop : wholeT nopT = nopT := whole_fix (fun t h => by cases h) rfl
theorem whole_lit (s : List UInt8) : wholeT (.mk 1 0 s []) = .mk 1 0 s [] := whole_fix (fun t h => by cases h) rfl
theorem whole_call (s : List UInt8) : wholeT (callS s) = callS s := whole_fix (fun t h => by rw [List.mem_singleton.1 h]; exact whole_lit s) rfl
theorem whole_cmd {t : Tr} (h : Cmd t) : wholeT t = t := by
  obtain ⟨j, s, hj, _, rfl⟩ := h
  unfold cmdN
  repeat' split
  · exact whole_nop
  · refine whole_fix (fun t h => ?_) rfl
    simp only [List.mem_cons, List.not_mem_nil, or_false] at h
    rcases h with rfl | rfl
    · exact whole_lit s
    · exact whole_nop
  · refine whole_fix (fun t h => ?_) rfl
    simp only [List.mem_cons, List.not_mem_nil, or_false] at h
    rcases h with rfl | rfl
    · exact whole_call s
    · exact whole_nop
  · refine whole_fix (fun t h => ?_) rfl
    rw [List.mem_singleton.1 h]
    exact whole_call s
  · exact whole_call s
theorem cmd_kind {t : Tr} (h : Cmd t) : (t.kind == 23) = false := by
  obtain ⟨j, s, hj, _, rfl⟩ := h
  unfold cmdN
  repeat' split
  all_goals rfl
theorem cmd_rule {t : Tr} (h : Cmd t) : ruleT t = none := by
  obtain ⟨j, s, hj, _, rfl⟩ := h
  unfold cmdN
  repeat' split
  all_goals rfl
theorem cmd_len {t : Tr} (h : Cmd t) : (flat t).length ≤ 4 := by
  obtain ⟨j, s, hj, _, rfl⟩ := h
  unfold cmdN
  repeat' split
  all_goals simp [callS, nopT, flat_mk, flatAll_cons, flatAll_nil]
theorem cmd_nd {t : Tr} (h : Cmd t) : ∀ x ∈ flat t, NdOk x := by
  obtain ⟨j, s, hj, hs, rfl⟩ := h
  intro x hx
  have hj5 : j = 0 ∨ j = 1 ∨ j = 2 ∨ j = 3 ∨ j = 4 := by omega
  rcases hj5 with rfl | rfl | rfl | rfl | rfl
  all_goals simp [cmdN, callS, nopT, flat_mk, flatAll_cons, flatAll_nil] at hx
  · subst hx
    exact ⟨by first | (simp; done) | (dsimp only; omega), by first | (simp; done) | (dsimp only; omega)⟩
  · rcases hx with rfl | rfl | rfl
    all_goals exact ⟨by first | (simp; done) | (dsimp only; omega), by first | (simp; done) | (dsimp only; omega)⟩
  · rcases hx with rfl | rfl | rfl | rfl
    all_goals exact ⟨by first | (simp; done) | (dsimp only; omega), by first | (simp; done) | (dsimp only; omega)⟩
  · rcases hx with rfl | rfl | rfl
    all_goals exact ⟨by first | (simp; done) | (dsimp only; omega), by first | (simp; done) | (dsimp only; omega)⟩
  · rcases hx with rfl | rfl
    all_goals exact ⟨by first | (simp; done) | (dsimp only; omega), by first | (simp; done) | (dsimp only; omega)⟩
theorem okT_lit (d : Nat) (s : List UInt8) (h : s.length ≤ 100) : okT (d + 1) true (.mk 1 0 s []) = true := by
  have : decide (s.length ≤ 2000) = true := decide_eq_true (by omega)
  simp [okT, kindB, wordB, fieldsB, childrenB, okAll, this]
theorem okT_nop (d : Nat) : okT (d + 1) false nopT = true := by simp [nopT, okT, kindB, commandB, fieldsB, childrenB, okAll, namedB]
theorem okT_call (d : Nat) (s : List UInt8) (h : s.length ≤ 100) : okT (d + 2) false (callS s) = true := by
  have h1 := okT_lit d s h
  rw [callS, okT, okAll, okAll]
  simp only [show takesB 21 (([Tr.mk 1 0 s []] : List Tr).length : Int) ((0 : Nat) : Int) = true from rfl, h1]
  rfl
theorem cmd_ok (d : Nat) {t : Tr} (h : Cmd t) : okT (d + 3) false t = true := by
  obtain ⟨j, s, hj, hs, rfl⟩ := h
  have h1 := okT_lit (d + 1) s hs
  have h2 := okT_nop (d + 1)
  have h3 := okT_call d s hs
  unfold cmdN
  repeat' split
  · exact okT_nop (d + 2)
  · rw [okT, okAll, okAll, okAll]
    simp only [show takesB 33 (([Tr.mk 1 0 s [], nopT] : List Tr).length : Int) ((0 : Nat) : Int) = true from rfl, show takesB 33 (([Tr.mk 1 0 s [], nopT] : List Tr).length : Int) ((0 + 1 : Nat) : Int) = false from rfl, h1, h2]
    rfl
  · rw [okT, okAll, okAll, okAll]
    simp only [show ∀ k, takesB 32 (([callS s, nopT] : List Tr).length : Int) k = false from fun _ => rfl, h3, h2]
    rfl
  · rw [okT, okAll, okAll]
    simp only [show ∀ k, takesB 31 (([callS s] : List Tr).length : Int) k = false from fun _ => rfl, h3]
    rw [show (([callS s] : List Tr).length : Int) = 1 from rfl]
    decide +kernel
  · exact okT_call (d + 1) s hs
theorem okAll_mem {f : Nat → Tr → Bool} : ∀ (ts : List Tr) (k : Nat), (∀ t ∈ ts, ∀ k, f k t = true) → okAll f k ts = true
  | [], k, _ => rfl
  | t :: ts, k, h => by rw [okAll, h t (by simp), okAll_mem ts (k + 1) fun u hu => h u (by simp [hu])]; rfl
theorem cmds_ok (T : List Tr) (h : ∀ t ∈ T, Cmd t) : okT 30 false (seqT T) = true := by
  rcases T with _ | ⟨t, _ | ⟨u, T⟩⟩
  · exact okT_nop 29
  · exact cmd_ok 27 (h t (by simp))
  · rw [show seqT (t :: u :: T) = Tr.mk 23 0 [] (t :: u :: T) from rfl, okT]
    have hc : childrenB 23 ((t :: u :: T).length : Int) = true := by simp [childrenB]; omega
    rw [hc, okAll_mem (t :: u :: T) 0 (fun x hx k => by rw [show takesB 23 ((t :: u :: T).length : Int) k = false from rfl]; exact cmd_ok 26 (h x hx))]
    rfl
theorem cmds_all (T : List Tr) (h : ∀ t ∈ T, Cmd t) : seqAll T = T := seqAll_same T (by
  rw [List.countP_eq_zero]
  intro t ht
  rw [cmd_kind (h t ht)]
  simp)
theorem dropN_snoc : ∀ (P : List Tr) (t : Tr), dropN (P ++ [t]) = P.filter (fun x => x.kind != 20) ++ [t]
  | [], t => rfl
  | [p], t => by
    show dropN [p, t] = _
    rw [dropN]
    cases h : (p.kind == 20)
    · have h2 : (p.kind != 20) = true := by rw [bne, h]; rfl
      simp [dropN, List.filter, h2]
    · have h2 : (p.kind != 20) = false := by rw [bne, h]; rfl
      simp [dropN, List.filter, h2]
  | p :: q :: P, t => by
    have ih := dropN_snoc (q :: P) t
    rw [List.cons_append, List.cons_append, dropN]
    rw [List.cons_append] at ih
    cases h : (p.kind == 20)
    · have h2 : (p.kind != 20) = true := by rw [bne, h]; rfl
      rw [List.filter_cons, h2, ih]
      rfl
    · have h2 : (p.kind != 20) = false := by rw [bne, h]; rfl
      rw [List.filter_cons, h2, ih]
      rfl
theorem filter_idem (P : List Tr) : (P.filter (fun x => x.kind != 20)).filter (fun x => x.kind != 20) = P.filter (fun x => x.kind != 20) := by
  rw [List.filter_filter]; simp
theorem dropN_idem (T : List Tr) : dropN (dropN T) = dropN T := by
  rcases List.eq_nil_or_concat T with h | ⟨P, t, h⟩
  · subst h; rfl
  · rw [List.concat_eq_append] at h
    subst h
    rw [dropN_snoc, dropN_snoc, filter_idem]
theorem whole_seq (T : List Tr) (h : ∀ t ∈ T, Cmd t) : wholeT (seqT T) = seqT (dropN T) := by
  rcases T with _ | ⟨t, _ | ⟨u, T⟩⟩
  · exact whole_nop
  · exact whole_cmd (h t (by simp))
  · obtain ⟨TT, hTT⟩ : ∃ TT, TT = t :: u :: T := ⟨_, rfl⟩
    have h2 : 2 ≤ TT.length := by rw [hTT]; simp
    rw [← hTT] at h ⊢
    have hw : wholeTs TT = TT := by
      rw [wholeTs_map]
      exact (List.map_congr_left fun t ht => whole_cmd (h t ht)).trans (List.map_id TT)
    have hm : ∀ x ∈ dropN TT, Cmd x := fun x hx => h x (dropN_mem TT x hx)
    have hlen : (flat (Tr.mk 23 0 [] TT)).length = (flatAll TT).length + 1 := by rw [flat_size]; omega
    rw [seqT_many h2, wholeT_mk, hw, hlen]
    cases hr : ruleT (Tr.mk 23 0 [] TT) with
    | none =>
      have hr2 : seqR TT = none := hr
      unfold seqR at hr2
      rw [cmds_all TT h] at hr2
      split at hr2
      · rename_i he
        simp only [Bool.and_eq_true, beq_iff_eq] at he
        have hd : dropN TT = TT := by
          have hsub : ∀ (L : List Tr), (dropN L).length = L.length → dropN L = L := by
            intro L
            rcases List.eq_nil_or_concat L with h0 | ⟨P, t, h0⟩
            · subst h0; intro _; rfl
            · rw [List.concat_eq_append] at h0
              subst h0
              rw [dropN_snoc]
              intro hl
              rw [List.length_append, List.length_append] at hl
              have hf := (List.filter_eq_self (p := fun x : Tr => x.kind != 20) (l := P))
              have h3 : (P.filter (fun x => x.kind != 20)).length = P.length := by omega
              rw [(List.length_filter_eq_length_iff.1 h3 |> fun h4 => hf.2 h4)]
          exact hsub TT he.1
        rw [iter_none hr, hd, seqT_many h2]
      · cases hr2
    | some t' =>
      rw [iter_some hr]
      have hr2 : seqR TT = some t' := hr
      unfold seqR at hr2
      rw [cmds_all TT h] at hr2
      split at hr2
      · cases hr2
      · injection hr2 with hr2
        subst hr2
        refine iter_none ?_
        rcases hD : dropN TT with _ | ⟨a, _ | ⟨b, r⟩⟩
        · rfl
        · exact cmd_rule (hm a (by rw [hD]; simp))
        · show seqR (a :: b :: r) = none
          rw [← hD]
          unfold seqR
          rw [cmds_all _ hm, dropN_idem]
          simp
end Go.Proofs.YtjhgljfmheopmaaDoor
