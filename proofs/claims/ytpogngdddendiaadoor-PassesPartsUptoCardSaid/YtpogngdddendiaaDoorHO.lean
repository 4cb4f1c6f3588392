/- The walk over core.Seq: over a row of slices that read as trees laid flat. Bounds on the lengths. -/
import Derived.Test.YtpogngdddendiaaDoorHN
import Derived.Outline
import Derived.Test.YtpogngdddendiaaDoorHD
import Derived.Test.YtpogngdddendiaaDoorHM
set_option linter.unusedVariables false
set_option linter.unusedSimpArgs false
namespace Go.Proofs.YtpogngdddendiaaDoor
open Go.RowKit

def seqT : List Tr → Tr
  | [] => nopT
  | [t] => t
  | t :: u :: ts => .mk 23 0 [] (t :: u :: ts)
theorem seqT_many {ts : List Tr} (h : 2 ≤ ts.length) : seqT ts = .mk 23 0 [] ts := by
  match ts, h with
  | t :: u :: ts, _ => rfl

set_option maxHeartbeats 1000000 in
theorem seq_any (A : Option Addr) (c m : Nat) (ts : List Tr) (w : World) (h : KdRd w A (ts.map flat)) (hm : m = ts.length) (ht : (flatAll ts).length ≤ 4000000) :
    Calls Tryd.prog 158 #[.slice A m c] w (VRet (flat (seqT ts)) w) := by
  rcases ts with _ | ⟨t, _ | ⟨u, ts⟩⟩
  · obtain rfl : m = 0 := hm
    rw [show seqT [] = Tr.mk 20 0 [] [] from rfl]
    go_enter Tryd.func158, Tryd.ntmps158
    go_wp2_with fail
    refine (newT_any 20 0 [] none 0 0 [] _ (KdRd.nil _ _) rfl (of_decide_eq_true (by kernel_rfl))).mono ?_
    rintro e w1 ⟨A1, n1, c1, rfl, h1, h2⟩
    have H1 := Lib.hid h1
    clear h1
    go_wp2_with fail
    go_ret
    exact ⟨A1, n1, c1, rfl, H1.out, h2⟩
  · obtain rfl : m = 1 := hm
    rw [show seqT [t] = t from rfl]
    obtain ⟨b, o, v, rfl, hb, hc, hs⟩ := h.at_ (k := 0) (by simp)
    simp only [List.getElem_map, List.getElem_cons_zero, Nat.add_zero] at hc hs
    rw [flatAll_cons, flatAll_nil, List.append_nil] at ht
    have HC := Lib.hid (clone_any v (flat t) w hs ht)
    obtain ⟨A1, c1, rfl, _⟩ := hs
    go_enter Tryd.func158, Tryd.ntmps158
    go_wp2_with fail
    refine HC.out.mono ?_
    rintro e w1 h1
    obtain ⟨A1, n1, c1, rfl, h1, h2⟩ := h1.v
    have H1 := Lib.hid h1
    clear h1
    go_wp2_with fail
    go_ret
    exact ⟨A1, n1, c1, rfl, H1.out, h2⟩
  · rw [show seqT (t :: u :: ts) = Tr.mk 23 0 [] (t :: u :: ts) from rfl]
    have h0 : ((m : Int) == 0) = false := by rw [beq_eq_false_iff_ne]; simp at hm; omega
    have h1 : ((m : Int) == 1) = false := by rw [beq_eq_false_iff_ne]; simp at hm; omega
    have HC := Lib.hid (newT_any 23 0 [] A c m (t :: u :: ts) w h hm ht)
    clear h hm ht
    go_enter Tryd.func158, Tryd.ntmps158
    go_wp2_with fail
    refine HC.out.mono ?_
    rintro e w1 ⟨A1, n1, c1, rfl, h1, h2⟩
    have H1 := Lib.hid h1
    clear h1
    go_wp2_with fail
    go_ret
    exact ⟨A1, n1, c1, rfl, H1.out, h2⟩
end Go.Proofs.YtpogngdddendiaaDoor

/- What does nothing, on trees (chapter 18), with no program in sight. No condition. -/
set_option linter.unusedVariables false
set_option linter.unusedSimpArgs false
namespace Go.Proofs.YtpogngdddendiaaDoor

def silT (t : Tr) : Bool := !((flat t).any fun x => x.kind == 12)
def seqAll : List Tr → List Tr
  | [] => []
  | t :: ts => (if t.kind == 23 then t.kids else [t]) ++ seqAll ts
/-- without Nops ahead of the last -/
def dropN : List Tr → List Tr
  | [] => []
  | [t] => [t]
  | t :: u :: ts => if t.kind == 20 then dropN (u :: ts) else t :: dropN (u :: ts)
def seqR (ks : List Tr) : Option Tr :=
  if (dropN (seqAll ks)).length == ks.length && (seqAll ks).length == ks.length then none else some (seqT (dropN (seqAll ks)))
def ruleK (kd : Int) (ks : List Tr) : Option Tr :=
  if kd == 23 then seqR ks
  else if kd == 24 || kd == 25 then match ks with
    | a :: b :: r => if a.kind == 20 then some b else if kd == 24 && a.kind == 27 then (match a.kids, r with | x :: _, c :: _ => some (.mk 24 0 [] [x, c, b]) | _, _ => none) else none
    | _ => none
  else if kd == 26 then match ks with
    | a :: _ => if a.kind == 20 then some a else none
    | _ => none
  else if kd == 27 then match ks with
    | a :: _ => if a.kind == 27 then (match a.kids with | x :: _ => if x.kind == 27 then some x else none | _ => none) else none
    | _ => none
  else if kd == 34 || kd == 35 then match ks with
    | a :: b :: _ => if !silT a then none else if b.kind == 20 then some b else if kd == 34 && b.kind == 34 && (match b.kids with | x :: _ => silT x | _ => false) then some b else none
    | _ => none
  else if kd == 30 then match ks with
    | [a] => if silT a then some nopT else none
    | _ => none
  else none
def ruleT (t : Tr) : Option Tr := ruleK t.kind t.kids
def iterT : Nat → Tr → Tr
  | 0, t => t
  | n + 1, t => match ruleT t with
    | none => t
    | some t' => iterT n t'
mutual
def wholeT : Tr → Tr
  | .mk kd n s ks => iterT (flat (.mk kd n s (wholeTs ks))).length (.mk kd n s (wholeTs ks))
def wholeTs : List Tr → List Tr
  | [] => []
  | t :: ts => wholeT t :: wholeTs ts
end
theorem wholeT_mk (kd n : Int) (s : List UInt8) (ks : List Tr) : wholeT (.mk kd n s ks) = iterT (flat (.mk kd n s (wholeTs ks))).length (.mk kd n s (wholeTs ks)) := by rw [wholeT]
theorem wholeTs_nil : wholeTs [] = [] := by rw [wholeTs]
theorem wholeTs_cons (t : Tr) (ts : List Tr) : wholeTs (t :: ts) = wholeT t :: wholeTs ts := by rw [wholeTs]
theorem wholeTs_map : ∀ ts : List Tr, wholeTs ts = ts.map wholeT
  | [] => by rw [wholeTs_nil]; rfl
  | t :: ts => by rw [wholeTs_cons, wholeTs_map ts]; rfl

/- As many children as the kinds ask. -/
mutual
def arT : Tr → Bool
  | .mk kd _ _ ks => childrenB kd ks.length && arTs ks
def arTs : List Tr → Bool
  | [] => true
  | t :: ts => arT t && arTs ts
end
theorem arT_mk (kd n : Int) (s : List UInt8) (ks : List Tr) : arT (.mk kd n s ks) = (childrenB kd ks.length && arTs ks) := by rw [arT]
theorem arTs_nil : arTs [] = true := by rw [arTs]
theorem arTs_cons (t : Tr) (ts : List Tr) : arTs (t :: ts) = (arT t && arTs ts) := by rw [arTs]
theorem arTs_all : ∀ ts : List Tr, arTs ts = true ↔ ∀ t ∈ ts, arT t = true
  | [] => by simp [arTs_nil]
  | t :: ts => by rw [arTs_cons, Bool.and_eq_true, arTs_all ts]; simp
theorem ar_kids {t : Tr} (h : arT t = true) : childrenB t.kind t.kids.length = true ∧ ∀ u ∈ t.kids, arT u = true := by
  cases t with
  | mk kd n s ks =>
    rw [arT_mk, Bool.and_eq_true, arTs_all] at h
    exact h
theorem arTs_ok {d : Nat} {g : Nat → Bool} (ih : ∀ (w : Bool) (t : Tr), okT d w t = true → arT t = true) : ∀ (ks : List Tr) (k : Nat), okAll (fun k t => okT d (g k) t) k ks = true → arTs ks = true
  | [], k, _ => arTs_nil
  | t :: ts, k, h => by
    rw [okAll, Bool.and_eq_true] at h
    rw [arTs_cons, ih _ _ h.1, arTs_ok ih ts (k + 1) h.2]
    rfl
theorem arT_ok : ∀ (d : Nat) (w : Bool) (t : Tr), okT d w t = true → arT t = true
  | 0, w, t, h => by rw [okT] at h; cases h
  | d + 1, w, .mk kd n s ks, h => by
    rw [okT] at h
    simp only [Bool.and_eq_true] at h
    rw [arT_mk, h.1.2, arTs_ok (fun w t h => arT_ok d w t h) ks 0 h.2]
    rfl

/- Sizes. -/
theorem nop_size : (flat nopT).length = 1 := by rw [nopT, flat_size, flatAll_nil]; rfl
theorem size_kids (t : Tr) : (flat t).length = 1 + (flatAll t.kids).length := by have := flat_kids_le t; omega
theorem seqAll_size : ∀ ks : List Tr, (flatAll (seqAll ks)).length + (ks.countP fun t => t.kind == 23) = (flatAll ks).length
  | [] => rfl
  | t :: ts => by
    have ih := seqAll_size ts
    have h := size_kids t
    rw [seqAll, flatAll_append, flatAll_cons, List.length_append, List.length_append, List.countP_cons]
    cases hk : (t.kind == 23)
    · simp only [Bool.false_eq_true, if_false, flatAll_cons, flatAll_nil, List.append_nil]
      omega
    · simp only [if_true]
      omega
theorem dropN_size : ∀ ks : List Tr, (flatAll (dropN ks)).length + (ks.length - (dropN ks).length) ≤ (flatAll ks).length ∧ (dropN ks).length ≤ ks.length
  | [] => by simp [dropN]
  | [t] => by simp [dropN]
  | t :: u :: ts => by
    have ih := dropN_size (u :: ts)
    have hp := flat_pos t
    rw [dropN]
    split
    · rw [flatAll_cons t (u :: ts), List.length_append]
      simp only [List.length_cons] at ih ⊢
      omega
    · rw [flatAll_cons t (dropN (u :: ts)), flatAll_cons t (u :: ts), List.length_append, List.length_append]
      simp only [List.length_cons] at ih ⊢
      omega
theorem dropN_ne : ∀ ks : List Tr, ks ≠ [] → dropN ks ≠ []
  | [], h => h
  | [t], _ => by simp [dropN]
  | t :: u :: ts, _ => by
    rw [dropN]
    split
    · exact dropN_ne (u :: ts) (by simp)
    · simp
theorem seqT_size (ts : List Tr) (h : ts ≠ []) : (flat (seqT ts)).length ≤ 1 + (flatAll ts).length := by
  rcases ts with _ | ⟨t, _ | ⟨u, ts⟩⟩
  · exact absurd rfl h
  · rw [show seqT [t] = t from rfl, flatAll_cons, flatAll_nil, List.append_nil]; omega
  · rw [show seqT (t :: u :: ts) = Tr.mk 23 0 [] (t :: u :: ts) from rfl, flat_size]; omega

theorem seqT_ar (ts : List Tr) (h : ts ≠ []) (ha : ∀ t ∈ ts, arT t = true) : arT (seqT ts) = true := by
  rcases ts with _ | ⟨t, _ | ⟨u, ts⟩⟩
  · exact absurd rfl h
  · exact ha t (by simp)
  · rw [show seqT (t :: u :: ts) = Tr.mk 23 0 [] (t :: u :: ts) from rfl, arT_mk, (arTs_all _).2 ha]
    have hc : childrenB 23 ((t :: u :: ts).length : Int) = true := by
      simp [childrenB]
      omega
    rw [hc]
    rfl
theorem seqAll_mem : ∀ (ks : List Tr) (x : Tr), x ∈ seqAll ks → (∀ t ∈ ks, arT t = true) → arT x = true
  | [], x, h, _ => by cases h
  | t :: ts, x, h, ha => by
    rw [seqAll, List.mem_append] at h
    rcases h with h | h
    · split at h
      · exact (ar_kids (ha t (by simp))).2 x h
      · rw [List.mem_singleton.1 h]; exact ha t (by simp)
    · exact seqAll_mem ts x h fun u hu => ha u (by simp [hu])
theorem dropN_mem : ∀ (ks : List Tr) (x : Tr), x ∈ dropN ks → x ∈ ks
  | [], x, h => h
  | [t], x, h => h
  | t :: u :: ts, x, h => by
    rw [dropN] at h
    split at h
    · exact List.mem_cons_of_mem _ (dropN_mem (u :: ts) x h)
    · rcases List.mem_cons.1 h with h | h
      · rw [h]; simp
      · exact List.mem_cons_of_mem _ (dropN_mem (u :: ts) x h)
/-- Seqs among the children make it longer. -/
theorem seqAll_len : ∀ (ks : List Tr), (∀ t ∈ ks, arT t = true) → ks.length + (ks.countP fun t => t.kind == 23) ≤ (seqAll ks).length
  | [], _ => Nat.le_refl _
  | t :: ts, ha => by
    have ih := seqAll_len ts fun u hu => ha u (by simp [hu])
    have hk := (ar_kids (ha t (by simp))).1
    rw [seqAll, List.length_append, List.countP_cons, List.length_cons]
    cases hq : (t.kind == 23)
    · simp only [Bool.false_eq_true, if_false, List.length_cons, List.length_nil]
      omega
    · rw [beq_iff_eq] at hq
      rw [hq] at hk
      simp [childrenB] at hk
      simp only [if_true]
      omega
theorem seqAll_ne {ks : List Tr} (h : ks ≠ []) (ha : ∀ t ∈ ks, arT t = true) : seqAll ks ≠ [] := by
  have h1 := seqAll_len ks ha
  intro h2
  rw [h2, List.length_nil] at h1
  have : ks.length ≠ 0 := fun h3 => h (List.eq_nil_of_length_eq_zero h3)
  omega
theorem seqAll_same : ∀ (ks : List Tr), (ks.countP fun t => t.kind == 23) = 0 → seqAll ks = ks
  | [], _ => rfl
  | t :: ts, h => by
    rw [List.countP_cons] at h
    have h1 : (t.kind == 23) = false := by
      cases hq : (t.kind == 23)
      · rfl
      · rw [hq] at h; simp at h
    rw [h1] at h
    rw [seqAll, h1, seqAll_same ts (by simpa using h)]
    rfl
/-- A rule that fits makes the tree smaller, and each kind keeps its number of children. -/
theorem rule_less {t t' : Tr} (ha : arT t = true) (h : ruleT t = some t') : (flat t').length < (flat t).length ∧ arT t' = true := by
  obtain ⟨hc, hk⟩ := ar_kids ha
  have hs := size_kids t
  unfold ruleT ruleK at h
  split at h
  · rename_i h23
    rw [beq_iff_eq] at h23
    rw [h23] at hc
    simp [childrenB] at hc
    unfold seqR at h
    split at h
    · cases h
    · rename_i hne
      injection h with h
      subst h
      have hks : t.kids ≠ [] := by intro h0; rw [h0] at hc; simp at hc
      have ha1 := seqAll_ne hks hk
      have ha2 := dropN_ne _ ha1
      have h1 := seqAll_size t.kids
      have h2 := dropN_size (seqAll t.kids)
      have h3 := seqAll_len t.kids hk
      have h4 := seqT_size _ ha2
      refine ⟨?_, seqT_ar _ ha2 fun x hx => seqAll_mem _ x (dropN_mem _ x hx) hk⟩
      have h5 : ¬ ((dropN (seqAll t.kids)).length = t.kids.length ∧ (seqAll t.kids).length = t.kids.length) := by
        intro hh
        simp [hh.1, hh.2] at hne
      by_cases h6 : (t.kids.countP fun t => t.kind == 23) = 0
      · have h7 := seqAll_same _ h6
        rw [h7] at h2 h4 h5
        rw [h7]
        omega
      · omega
  · split at h
    · rename_i h23 h2425
      split at h
      · rename_i a b r he
        rw [he] at hk hs hc
        rw [flatAll_cons, flatAll_cons, List.length_append, List.length_append] at hs
        split at h
        · injection h with h
          subst h
          exact ⟨by omega, hk _ (by simp)⟩
        · split at h
          · rename_i h3
            rw [Bool.and_eq_true, beq_iff_eq, beq_iff_eq] at h3
            split at h
            · rename_i x _ c _ hx
              injection h with h
              subst h
              have ha2 := ar_kids (hk a (by simp))
              rw [hx, h3.2] at ha2
              have hsa := size_kids a
              rw [hx, flatAll_cons, List.length_append] at hsa
              rw [flatAll_cons, List.length_append] at hs
              refine ⟨?_, ?_⟩
              · rw [flat_size, flatAll_cons, flatAll_cons, flatAll_cons, flatAll_nil, List.append_nil, List.length_append, List.length_append]
                omega
              · rw [arT_mk, arTs_cons, arTs_cons, arTs_cons, arTs_nil, ha2.2 x (by simp), hk c (by simp), hk b (by simp)]
                rfl
            · cases h
          · cases h
      · cases h
    · split at h
      · split at h
        · rename_i a r he
          rw [he] at hk hs
          rw [flatAll_cons, List.length_append] at hs
          split at h
          · injection h with h
            subst h
            exact ⟨by omega, hk _ (by simp)⟩
          · cases h
        · cases h
      · split at h
        · split at h
          · rename_i a r he
            rw [he] at hk hs
            rw [flatAll_cons, List.length_append] at hs
            split at h
            · split at h
              · rename_i x y hx
                split at h
                · injection h with h
                  subst h
                  have ha2 := ar_kids (hk a (by simp))
                  rw [hx] at ha2
                  have hsa := size_kids a
                  rw [hx, flatAll_cons, List.length_append] at hsa
                  exact ⟨by omega, ha2.2 x (by simp)⟩
                · cases h
              · cases h
            · cases h
          · cases h
        · split at h
          · split at h
            · rename_i a b r he
              rw [he] at hk hs
              rw [flatAll_cons, flatAll_cons, List.length_append, List.length_append] at hs
              split at h
              · cases h
              · split at h
                · injection h with h
                  subst h
                  exact ⟨by omega, hk _ (by simp)⟩
                · split at h
                  all_goals
                    split at h
                    · injection h with h
                      subst h
                      exact ⟨by omega, hk _ (by simp)⟩
                    · cases h
            · cases h
          · split at h
            · split at h
              · rename_i a he
                rw [he] at hs
                rw [flatAll_cons, List.length_append] at hs
                have hp := flat_pos a
                split at h
                · injection h with h
                  subst h
                  exact ⟨by rw [nop_size]; omega, by decide +kernel⟩
                · cases h
              · cases h
            · cases h

theorem iter_none {n : Nat} {t : Tr} (h : ruleT t = none) : iterT n t = t := by
  cases n with
  | zero => rfl
  | succ n => rw [iterT, h]
theorem iter_some {n : Nat} {t t' : Tr} (h : ruleT t = some t') : iterT (n + 1) t = iterT n t' := by rw [iterT, h]
theorem iter_spec : ∀ (n : Nat) (t : Tr), arT t = true → (flat t).length ≤ n → ruleT (iterT n t) = none ∧ arT (iterT n t) = true ∧ (flat (iterT n t)).length ≤ (flat t).length
  | 0, t, _, h => by have := flat_pos t; omega
  | n + 1, t, ha, h => by
    cases hr : ruleT t with
    | none =>
      rw [iter_none hr]
      exact ⟨hr, ha, Nat.le_refl _⟩
    | some t' =>
      obtain ⟨h1, h2⟩ := rule_less ha hr
      obtain ⟨h3, h4, h5⟩ := iter_spec n t' h2 (by omega)
      rw [iter_some hr]
      exact ⟨h3, h4, by omega⟩
mutual
theorem wholeT_ar : ∀ t : Tr, arT t = true → arT (wholeT t) = true ∧ (flat (wholeT t)).length ≤ (flat t).length
  | .mk kd n s ks, h => by
    rw [arT_mk, Bool.and_eq_true] at h
    obtain ⟨h1, h2, h3⟩ := wholeTs_ar ks h.2
    have ha : arT (.mk kd n s (wholeTs ks)) = true := by rw [arT_mk, h3, h.1, h1]; rfl
    obtain ⟨_, h5, h6⟩ := iter_spec _ _ ha (Nat.le_refl _)
    rw [wholeT_mk]
    have hs1 := flat_size kd n s (wholeTs ks)
    have hs2 := flat_size kd n s ks
    exact ⟨h5, by omega⟩
theorem wholeTs_ar : ∀ ks : List Tr, arTs ks = true → arTs (wholeTs ks) = true ∧ (flatAll (wholeTs ks)).length ≤ (flatAll ks).length ∧ (wholeTs ks).length = ks.length
  | [], _ => by rw [wholeTs_nil]; exact ⟨arTs_nil, Nat.le_refl _, rfl⟩
  | t :: ts, h => by
    rw [arTs_cons, Bool.and_eq_true] at h
    obtain ⟨h1, h2⟩ := wholeT_ar t h.1
    obtain ⟨h3, h4, h5⟩ := wholeTs_ar ts h.2
    rw [wholeTs_cons, arTs_cons, h1, h3, flatAll_cons, flatAll_cons, List.length_append, List.length_append, List.length_cons, List.length_cons, h5]
    exact ⟨rfl, by omega, rfl⟩
end
end Go.Proofs.YtpogngdddendiaaDoor

/- The walks over core.Has (a closure called in a loop), dead.Silent, dead.is. Bounds on the lengths. -/
set_option linter.unusedVariables false
set_option linter.unusedSimpArgs false
namespace Go.Proofs.YtpogngdddendiaaDoor
open Go.RowKit

theorem is_v (v : Value) (t : Tr) (k : Int) (w : World) (hv : SlRd w v (flat t)) : Calls Tryd.prog 155 #[v, .int .i64 k] w fun e w' => e = .returned (.bool (t.kind == k)) ∧ w' = w := by
  obtain ⟨A, c, rfl, hrd, _⟩ := hv
  have hp := flat_pos t
  obtain ⟨b, o, rfl, _⟩ := hrd.addr hp
  have hx := hrd.at_ hp
  rw [flat_get0] at hx
  have c0 := hx.2 0 _ rfl
  simp only [Nat.zero_mul, Nat.add_zero] at c0
  generalize (flat t).length = m at *
  clear hx hrd
  go_enter Tryd.func155, Tryd.ntmps155
  go_wp2_with fail
  go_ret
  exact ⟨rfl, rfl⟩
theorem silent_any (A : Option Addr) (c m : Nat) (L : List Nd) (w : World) (hm : m = L.length) (hrd : RdL w 5 ndc A L) (hL : L.length ≤ 4000000) :
    Calls Tryd.prog 157 #[.slice A m c] w (Ret w (.bool (!L.any fun x => x.kind == 12))) := by
  obtain ⟨W0, hW0⟩ : ∃ W0, W0 = w.alloc (.cells #[.int .i64 12] 3) := ⟨_, rfl⟩
  have hb0 : Below w.heap.size w W0 := by rw [hW0]; exact (Below.refl _ _).alloc (Nat.le_refl _) _
  have hB0 : Blk W0 w.heap.size 3 #[.int .i64 12] := by rw [hW0]; exact Blk.new w _ _
  have z0 := hB0.cell 0
  simp only [List.getElem?_toArray, List.getElem?_cons_zero] at z0
  have hr1 : RdL W0 1 intc (some ⟨w.heap.size, 0, none⟩) [12] := by
    intro k hk
    have hk0 : k = 0 := by simpa using hk
    subst hk0
    refine ⟨w.heap.size, 0, rfl, hB0.lt, fun j u hu => ?_⟩
    cases j with
    | zero => simp only [intc, List.getElem_cons_zero, List.getElem?_cons_zero, Option.some.injEq] at hu; subst hu; simpa using z0
    | succ j => simp [intc] at hu
  have HC := Lib.hid (has_any A c m L (some ⟨w.heap.size, 0, none⟩) 1 1 [12] W0 hm rfl (hrd.below hb0) hL hr1 (by decide))
  have he : (L.any fun x => ([12] : List Int).contains x.kind) = L.any fun x => x.kind == 12 := by congr 1; funext x; rw [Bool.eq_iff_iff]; simp
  rw [he] at HC
  generalize (L.any fun x => x.kind == 12) = B at *
  clear hrd hB0 hm hr1 z0 he
  go_enter Tryd.func157, Tryd.ntmps157
  go_wp2_with fail
  rw [← hW0]
  clear hW0
  refine HC.out.mono ?_
  rintro e w1 ⟨rfl, hb1⟩
  have hb2 := hb0.trans (hb1.mono hb0.size)
  go_wp2_with fail
  go_ret
  exact ⟨rfl, hb2⟩
theorem silent_v (v : Value) (t : Tr) (w : World) (hv : SlRd w v (flat t)) (hL : (flat t).length ≤ 4000000) : Calls Tryd.prog 157 #[v] w (Ret w (.bool (silT t))) := by
  obtain ⟨A, c, rfl, hrd, _⟩ := hv
  exact silent_any A c _ (flat t) w rfl hrd hL
end Go.Proofs.YtpogngdddendiaaDoor
