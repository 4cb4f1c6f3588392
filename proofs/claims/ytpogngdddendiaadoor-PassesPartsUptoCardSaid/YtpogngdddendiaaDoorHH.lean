/- The plain laws of chapter 2's matching: what a pattern matches, said of its parts; what an escaped text is. No program in sight. -/
import Derived.Test.YtpogngdddendiaaDoorHA
import Derived.Test.YtpogngdddendiaaDoorHE
import Derived.Test.YtpogngdddendiaaDoorCheckW
set_option linter.unusedVariables false
set_option linter.unusedSimpArgs false
namespace Go.Proofs.YtpogngdddendiaaDoor

/-- the parts match just this text -/
def Mt : List Tok → List UInt8 → Prop
  | [], u => u = []
  | .star :: ts, u => ∃ k, k ≤ u.length ∧ Mt ts (u.drop k)
  | .any :: ts, u => match u with | [] => False | _ :: v => Mt ts v
  | .set l :: ts, u => match u with | [] => False | c :: v => inL l c = true ∧ Mt ts v
  | .one d :: ts, u => match u with | [] => False | c :: v => d = c ∧ Mt ts v

theorem Mt_cons {t : Tok} (h : ∀ x, t = x → x ≠ .star) (ts : List Tok) (u : List UInt8) : Mt (t :: ts) u ↔ ∃ c v, u = c :: v ∧ t.ok c = true ∧ Mt ts v := by
  have key : ∀ (P Q : UInt8 → List UInt8 → Prop), (∀ c v, P c v ↔ Q c v) → ((match u with | [] => False | c :: v => P c v) ↔ ∃ c v, u = c :: v ∧ Q c v) := by
    intro P Q hPQ
    cases u with
    | nil => simp
    | cons c v =>
      constructor
      · intro h; exact ⟨c, v, rfl, (hPQ c v).1 h⟩
      · rintro ⟨c', v', e, h⟩
        injection e with e1 e2
        subst e1 e2
        exact (hPQ _ _).2 h
  cases t with
  | star => exact absurd rfl (h _ rfl)
  | any => exact key (fun _ v => Mt ts v) _ (fun c v => by simp [Tok.ok])
  | set l => exact key (fun c v => inL l c = true ∧ Mt ts v) _ (fun c v => by simp [Tok.ok])
  | one d => exact key (fun c v => d = c ∧ Mt ts v) _ (fun c v => by simp [Tok.ok])

theorem getD_map_range (n : Nat) (f : Nat → Bool) (k : Nat) : ((List.range n).map f).getD k false = (decide (k < n) && f k) := by
  by_cases h : k < n
  · simp [h, List.getD]
  · simp [h, List.getD]

theorem any_take (l : List Bool) (k : Nat) : (l.take k).any id = true ↔ ∃ j, j < k ∧ l.getD j false = true := by
  simp only [List.any_eq_true, id]
  constructor
  · rintro ⟨b, hb, rfl⟩
    obtain ⟨j, hj, h⟩ := List.mem_iff_getElem.1 hb
    rw [List.length_take] at hj
    refine ⟨j, by omega, ?_⟩
    rw [List.getElem_take] at h
    rw [List.getD_eq_getElem?_getD, List.getElem?_eq_getElem (by omega), h]; rfl
  · rintro ⟨j, hj, h⟩
    have hl : j < l.length := by
      rcases Nat.lt_or_ge j l.length with h' | h'
      · exact h'
      · rw [List.getD_eq_getElem?_getD, List.getElem?_eq_none h'] at h; cases h
    rw [List.getD_eq_getElem?_getD, List.getElem?_eq_getElem hl] at h
    exact ⟨true, List.mem_iff_getElem.2 ⟨j, by rw [List.length_take]; omega, by rw [List.getElem_take]; exact h⟩, rfl⟩

theorem stepT_len (s : List UInt8) (at_ : List Bool) (t : Tok) : (stepT s at_ t).length = at_.length := by cases t <;> simp [stepT]
theorem stepT_star (s : List UInt8) (at_ : List Bool) (k : Nat) : (stepT s at_ .star).getD k false = true ↔ k < at_.length ∧ ∃ j, j ≤ k ∧ at_.getD j false = true := by
  simp only [stepT, getD_map_range, Bool.and_eq_true, decide_eq_true_eq, any_take]
  constructor
  · rintro ⟨h, j, hj, h'⟩; exact ⟨h, j, by omega, h'⟩
  · rintro ⟨h, j, hj, h'⟩; exact ⟨h, j, by omega, h'⟩
theorem stepT_one (s : List UInt8) (at_ : List Bool) (t : Tok) (ht : t ≠ .star) (k : Nat) : (stepT s at_ t).getD k false = true ↔ k < at_.length ∧ ∃ j, k = j + 1 ∧ at_.getD j false = true ∧ t.ok (s.getD j 0) = true := by
  have h : stepT s at_ t = (List.range at_.length).map fun k => match k with | 0 => false | j + 1 => at_.getD j false && t.ok (s.getD j 0) := by cases t <;> first | rfl | exact absurd rfl ht
  rw [h, getD_map_range]
  cases k with
  | zero => simp
  | succ j => simp

theorem runT_spec (s : List UInt8) : ∀ (ts : List Tok) (at_ : List Bool), at_.length = s.length + 1 →
    ((runT s ts at_).getD s.length false = true ↔ ∃ j, j ≤ s.length ∧ at_.getD j false = true ∧ Mt ts (s.drop j)) := by
  intro ts
  induction ts with
  | nil =>
    intro at_ hl
    simp only [runT, List.foldl_nil, Mt]
    constructor
    · intro h; exact ⟨s.length, Nat.le_refl _, h, by simp⟩
    · rintro ⟨j, hj, h, hd⟩
      have := congrArg List.length hd
      rw [List.length_drop] at this
      have : j = s.length := by simp at this; omega
      rw [← this]; exact h
  | cons t ts ih =>
    intro at_ hl
    have hs : runT s (t :: ts) at_ = runT s ts (stepT s at_ t) := rfl
    rw [hs, ih _ (by rw [stepT_len]; exact hl)]
    by_cases ht : t = .star
    · subst ht
      simp only [stepT_star, Mt]
      constructor
      · rintro ⟨k, hk, ⟨_, j, hj, h⟩, hm⟩
        refine ⟨j, by omega, h, k - j, by rw [List.length_drop]; omega, ?_⟩
        rw [List.drop_drop, show j + (k - j) = k by omega]; exact hm
      · rintro ⟨j, hj, h, k, hk, hm⟩
        rw [List.length_drop] at hk
        rw [List.drop_drop] at hm
        exact ⟨j + k, by omega, ⟨by omega, j, by omega, h⟩, hm⟩
    · simp only [stepT_one _ _ _ ht]
      rw [show (∃ j, j ≤ s.length ∧ at_.getD j false = true ∧ Mt (t :: ts) (s.drop j)) ↔ ∃ j, j ≤ s.length ∧ at_.getD j false = true ∧ ∃ c v, s.drop j = c :: v ∧ t.ok c = true ∧ Mt ts v from by
        simp only [Mt_cons (t := t) (fun x hx => by rw [← hx]; exact ht)]]
      constructor
      · rintro ⟨k, hk, ⟨_, j, rfl, h, hok⟩, hm⟩
        have hj : j < s.length := by omega
        rw [List.getD_eq_getElem?_getD, List.getElem?_eq_getElem hj] at hok
        exact ⟨j, by omega, h, s[j], s.drop (j + 1), List.drop_eq_getElem_cons hj, hok, hm⟩
      · rintro ⟨j, hj, h, c, v, hd, hok, hm⟩
        have hjl : j < s.length := by
          rcases Nat.lt_or_ge j s.length with h' | h'
          · exact h'
          · rw [List.drop_of_length_le h'] at hd; cases hd
        rw [List.drop_eq_getElem_cons hjl] at hd
        injection hd with h1 h2
        refine ⟨j + 1, by omega, ⟨by omega, j, rfl, h, ?_⟩, by rw [h2]; exact hm⟩
        rw [List.getD_eq_getElem?_getD, List.getElem?_eq_getElem hjl]
        simpa [h1] using hok

theorem matchL_iff (p s : List UInt8) : matchL p s = true ↔ Mt (toks (piecesOf p 0)) s := by
  unfold matchL
  rw [runT_spec s _ _ (by simp)]
  constructor
  · rintro ⟨j, hj, h, hm⟩
    cases j with
    | zero => simpa using hm
    | succ j =>
      simp [List.getElem?_replicate] at h
      split at h <;> cases h
  · intro h; exact ⟨0, Nat.zero_le _, rfl, by simpa using h⟩

/-- pieces that are no pattern byte and no blank -/
def Piece.inert (p : Piece) : Prop := p.dead = true ∨ escB p.c = false

theorem isB_inert {p : Piece} (h : p.inert) {d : UInt8} (hd : escB d = true) : p.isB d.toNat = false := by
  rcases h with h | h
  · simp [Piece.isB, h]
  · have : p.c ≠ d := fun e => by rw [e, hd] at h; cases h
    have hn : ((p.c.toNat : Int) == (d.toNat : Int)) = false := by
      rw [beq_eq_false_iff_ne]; intro e; exact this (UInt8.toNat_inj.1 (by omega))
    simp [Piece.isB, hn]
theorem blank_inert {p : Piece} (h : p.inert) : p.blankB = false := by
  rcases h with h | h
  · simp [Piece.blankB, h]
  · have : blankB p.c = false := by simp only [escB, Bool.or_eq_false_iff] at h; exact h.2
    simp [Piece.blankB, this]

theorem escapeL_cons_esc {c : UInt8} (h : escB c = true) (l : List UInt8) : escapeL (c :: l) = 92 :: c :: escapeL l := by simp [escapeL, h]
theorem escapeL_cons_plain {c : UInt8} (h : escB c = false) (l : List UInt8) : escapeL (c :: l) = c :: escapeL l := by simp [escapeL, h]
theorem esc_ne {c : UInt8} (h : escB c = false) : c ≠ 92 := fun e => by subst e; revert h; decide

theorem escaped (S : List UInt8) : ∀ i, (∀ p ∈ piecesOf (escapeL S) i, p.inert) ∧ (piecesOf (escapeL S) i).map (·.c) = S ∧ openOf (escapeL S) = false := by
  induction S with
  | nil => intro i; simp [escapeL, piecesOf, openOf]
  | cons c S ih =>
    intro i
    cases h : escB c with
    | true =>
      obtain ⟨h1, h2, h3⟩ := ih (i + 2)
      rw [escapeL_cons_esc h, piecesOf_esc, openOf_esc]
      refine ⟨fun p hp => ?_, by rw [List.map_cons, h2], h3⟩
      rcases List.mem_cons.1 hp with rfl | hp
      · exact .inl rfl
      · exact h1 p hp
    | false =>
      obtain ⟨h1, h2, h3⟩ := ih (i + 1)
      rw [escapeL_cons_plain h, piecesOf_ne (esc_ne h), openOf_ne (esc_ne h)]
      refine ⟨fun p hp => ?_, by rw [List.map_cons, h2], h3⟩
      rcases List.mem_cons.1 hp with rfl | hp
      · exact .inr h
      · exact h1 p hp

theorem toks_inert : ∀ (l : List Piece), (∀ p ∈ l, p.inert) → toks l = l.map fun p => .one p.c
  | [], _ => rfl
  | p :: l, h => by
    have hp := h p (by simp)
    rw [toks_one (isB_inert hp (d := 42) (by decide)) (isB_inert hp (d := 63) (by decide)) (fun e => by rw [show p.isB 91 = false from isB_inert hp (d := 91) (by decide)] at e; cases e), toks_inert l (fun q hq => h q (by simp [hq]))]
    rfl
theorem liveP_inert : ∀ (l : List Piece), (∀ p ∈ l, p.inert) → liveP l = false
  | [], _ => rfl
  | p :: l, h => by
    have hp := h p (by simp)
    have h1 : p.isB 42 = false := isB_inert hp (d := 42) (by decide)
    have h2 : p.isB 63 = false := isB_inert hp (d := 63) (by decide)
    have h3 : p.isB 91 = false := isB_inert hp (d := 91) (by decide)
    simp [liveP, h1, h2, h3, liveP_inert l (fun q hq => h q (by simp [hq]))]
theorem splitP_inert (s : List UInt8) : ∀ (l : List Piece) (frm : Nat), (∀ p ∈ l, p.blankB = false) → splitP s l frm = if frm < s.length then [s.drop frm] else []
  | [], _, _ => rfl
  | p :: l, frm, h => by
    rw [splitP, h p (by simp)]
    simp only [Bool.false_eq_true, if_false]
    exact splitP_inert s l frm (fun q hq => h q (by simp [hq]))
theorem Mt_ones : ∀ (cs u : List UInt8), Mt (cs.map Tok.one) u ↔ cs = u
  | [], u => by simp [Mt, eq_comm]
  | c :: cs, [] => by simp [Mt]
  | c :: cs, d :: u => by simp [Mt, Mt_ones cs u]

theorem plain_escape (S : List UInt8) : plainL (escapeL S) = S := (escaped S 0).2.1
theorem open_escape (S : List UInt8) : openOf (escapeL S) = false := (escaped S 0).2.2
theorem live_escape (S : List UInt8) : liveL (escapeL S) = false := liveP_inert _ (escaped S 0).1
theorem toks_escape (S : List UInt8) (i : Nat) : toks (piecesOf (escapeL S) i) = S.map Tok.one := by
  rw [toks_inert _ (escaped S i).1]
  conv => rhs; rw [← (escaped S i).2.1]
  rw [List.map_map]; rfl
theorem match_escape (S T : List UInt8) : matchL (escapeL S) T = decide (S = T) := by
  rw [Bool.eq_iff_iff, matchL_iff, toks_escape, Mt_ones, decide_eq_true_eq]
theorem split_escape (S : List UInt8) : splitL (escapeL S) = if 0 < (escapeL S).length then [escapeL S] else [] := by
  unfold splitL
  rw [splitP_inert _ _ _ (fun p hp => blank_inert ((escaped S 0).1 p hp)), List.drop_zero]
theorem escapeL_pos (S : List UInt8) (h : S ≠ []) : 0 < (escapeL S).length := by
  cases S with
  | nil => exact absurd rfl h
  | cons c S => cases hc : escB c <;> simp [escapeL, hc]
end Go.Proofs.YtpogngdddendiaaDoor

/- Fusing pipes, on trees (chapter 20), with no program in sight. No condition. -/
set_option linter.unusedVariables false
set_option linter.unusedSimpArgs false
namespace Go.Proofs.YtpogngdddendiaaDoor

mutual
def fuseT : Tr → Tr
  | .mk kd n s ks => .mk kd n s (fuseTs kd ks)
def fuseTs : Int → List Tr → List Tr
  | _, [] => []
  | kd, t :: ts => (if kd == 32 && (fuseT t).kind == 32 then (fuseT t).kids else [fuseT t]) ++ fuseTs kd ts
end
theorem fuseT_mk (kd n : Int) (s : List UInt8) (ks : List Tr) : fuseT (.mk kd n s ks) = .mk kd n s (fuseTs kd ks) := by rw [fuseT]
theorem fuseTs_nil (kd : Int) : fuseTs kd [] = [] := by rw [fuseTs]
theorem fuseTs_cons (kd : Int) (t : Tr) (ts : List Tr) : fuseTs kd (t :: ts) = (if kd == 32 && (fuseT t).kind == 32 then (fuseT t).kids else [fuseT t]) ++ fuseTs kd ts := by rw [fuseTs]
theorem fuseTs_append (kd : Int) (a b : List Tr) : fuseTs kd (a ++ b) = fuseTs kd a ++ fuseTs kd b := by
  induction a with
  | nil => rw [fuseTs_nil]; rfl
  | cons t a ih => rw [List.cons_append, fuseTs_cons, fuseTs_cons, ih, List.append_assoc]
theorem fuse_kind (t : Tr) : (fuseT t).kind = t.kind := by cases t; rw [fuseT_mk]; rfl
theorem fuse_take (kd : Int) (ks : List Tr) (k : Nat) (h : k < ks.length) : fuseTs kd (ks.take (k + 1)) = fuseTs kd (ks.take k) ++ (if kd == 32 && (fuseT ks[k]).kind == 32 then (fuseT ks[k]).kids else [fuseT ks[k]]) := by
  rw [List.take_succ_eq_append_getElem h, fuseTs_append, fuseTs_cons, fuseTs_nil, List.append_nil]
mutual
theorem fuseT_le : ∀ t : Tr, (flat (fuseT t)).length ≤ (flat t).length
  | .mk kd n s ks => by
    have h := fuseTs_le kd ks
    rw [fuseT_mk, flat_size, flat_size]
    omega
theorem fuseTs_le : ∀ (kd : Int) (ks : List Tr), (flatAll (fuseTs kd ks)).length ≤ (flatAll ks).length
  | kd, [] => by rw [fuseTs_nil]; exact Nat.le_refl _
  | kd, t :: ts => by
    have h1 := fuseT_le t
    have h2 := fuseTs_le kd ts
    have h3 := flat_kids_le (fuseT t)
    rw [fuseTs_cons, flatAll_append, flatAll_cons, List.length_append, List.length_append]
    split
    · omega
    · rw [flatAll_cons, flatAll_nil, List.append_nil]
      omega
end
end Go.Proofs.YtpogngdddendiaaDoor

/- What chapter 20's statement rests on, on trees, with no program in sight. No condition. -/
set_option linter.unusedVariables false
set_option linter.unusedSimpArgs false
namespace Go.Proofs.YtpogngdddendiaaDoor

theorem okAll_congr {f g : Nat → Tr → Bool} : ∀ (ts : List Tr) (k : Nat), (∀ t ∈ ts, ∀ k, f k t = true → g k t = true) → okAll f k ts = true → okAll g k ts = true
  | [], _, _, _ => rfl
  | t :: ts, k, h, ho => by
    rw [okAll, Bool.and_eq_true] at ho
    rw [okAll, h t (by simp) k ho.1, okAll_congr ts (k + 1) (fun u hu => h u (by simp [hu])) ho.2]
    rfl
theorem okT_mono : ∀ (d : Nat) (w : Bool) (t : Tr), okT d w t = true → okT (d + 1) w t = true
  | 0, w, t, h => by rw [okT] at h; cases h
  | d + 1, w, .mk kd n s ks, h => by
    rw [okT] at h ⊢
    simp only [Bool.and_eq_true] at h ⊢
    exact ⟨h.1, okAll_congr ks 0 (fun t _ k h => okT_mono d _ t h) h.2⟩
/-- In a place that asks the same of each: every one. -/
theorem okAll_forall {f : Tr → Bool} : ∀ (ts : List Tr) (k : Nat), okAll (fun _ t => f t) k ts = true ↔ ∀ t ∈ ts, f t = true
  | [], k => by simp [okAll]
  | t :: ts, k => by rw [okAll, Bool.and_eq_true, okAll_forall ts (k + 1)]; simp
theorem fuseTs_other {kd : Int} (h : (kd == 32) = false) : ∀ ks : List Tr, fuseTs kd ks = ks.map fuseT
  | [] => by rw [fuseTs_nil]; rfl
  | t :: ts => by rw [fuseTs_cons, h, fuseTs_other h ts]; rfl
theorem okAll_map {f : Nat → Tr → Bool} {g : Tr → Tr} : ∀ (ts : List Tr) (k : Nat), (∀ t ∈ ts, ∀ k, f k t = true → f k (g t) = true) → okAll f k ts = true → okAll f k (ts.map g) = true
  | [], _, _, _ => rfl
  | t :: ts, k, h, ho => by
    rw [okAll, Bool.and_eq_true] at ho
    rw [List.map_cons, okAll, h t (by simp) k ho.1, okAll_map ts (k + 1) (fun u hu => h u (by simp [hu])) ho.2]
    rfl
theorem pipe_kids {d : Nat} {w : Bool} {t : Tr} (h : okT (d + 1) w t = true) (hk : t.kind = 32) : 2 ≤ t.kids.length ∧ ∀ u ∈ t.kids, okT d false u = true := by
  cases t with
  | mk kd n s ks =>
    simp only [Tr.kind] at hk
    subst hk
    rw [okT] at h
    simp only [Bool.and_eq_true] at h
    have h2 : okAll (fun _ t => okT d false t) 0 ks = true := h.2
    refine ⟨?_, (okAll_forall ks 0).1 h2⟩
    have h3 := h.1.2
    simp [childrenB] at h3
    simp only [Tr.kids]
    omega
/-- A fused program may be, where the program may. -/
theorem fuse_ok : ∀ (d : Nat) (w : Bool) (t : Tr), okT d w t = true → okT d w (fuseT t) = true
  | 0, w, t, h => by rw [okT] at h; cases h
  | d + 1, w, .mk kd n s ks, h => by
    have ih := fuse_ok d
    rw [fuseT_mk]
    cases hk : (kd == 32)
    · rw [fuseTs_other hk]
      rw [okT] at h ⊢
      simp only [Bool.and_eq_true, List.length_map] at h ⊢
      exact ⟨h.1, okAll_map ks 0 (fun t _ k h => ih _ t h) h.2⟩
    · obtain rfl : kd = 32 := by simpa using hk
      have hpk := pipe_kids h rfl
      simp only [Tr.kids] at hpk
      have hmem : ∀ (ks : List Tr), (∀ u ∈ ks, okT d false u = true) → ∀ u ∈ fuseTs 32 ks, okT d false u = true := by
        intro ks
        induction ks with
        | nil => intro _ u hu; rw [fuseTs_nil] at hu; cases hu
        | cons t ts iht =>
          intro hks u hu
          rw [fuseTs_cons, List.mem_append] at hu
          rcases hu with hu | hu
          · have h1 := ih false t (hks t (by simp))
            split at hu
            · rename_i hc
              simp only [Bool.and_eq_true, beq_iff_eq] at hc
              cases d with
              | zero => rw [okT] at h1; cases h1
              | succ d => exact okT_mono d false u ((pipe_kids h1 hc.2).2 u hu)
            · rw [List.mem_singleton.1 hu]; exact h1
          · exact iht (fun u hu => hks u (by simp [hu])) u hu
      have hlen : ∀ (ks : List Tr), (∀ u ∈ ks, okT d false u = true) → ks.length ≤ (fuseTs 32 ks).length := by
        intro ks
        induction ks with
        | nil => intro _; simp
        | cons t ts iht =>
          intro hks
          have h2 := iht (fun u hu => hks u (by simp [hu]))
          have h1 := ih false t (hks t (by simp))
          rw [fuseTs_cons, List.length_append, List.length_cons]
          split
          · rename_i hc
            simp only [Bool.and_eq_true, beq_iff_eq] at hc
            cases d with
            | zero => rw [okT] at h1; cases h1
            | succ d => have := (pipe_kids h1 hc.2).1; omega
          · simp; omega
      have h5 := hlen ks hpk.2
      have h6 := hmem ks hpk.2
      rw [okT] at h ⊢
      simp only [Bool.and_eq_true] at h ⊢
      refine ⟨⟨h.1.1, ?_⟩, (okAll_forall _ 0).2 h6⟩
      simp [childrenB]
      omega
mutual
def flatP : Tr → Bool
  | .mk kd _ _ ks => flatPs kd ks
def flatPs : Int → List Tr → Bool
  | _, [] => true
  | kd, t :: ts => !(kd == 32 && t.kind == 32) && flatP t && flatPs kd ts
end
theorem flatPs_cons (kd : Int) (t : Tr) (ts : List Tr) : flatPs kd (t :: ts) = (!(kd == 32 && t.kind == 32) && flatP t && flatPs kd ts) := by rw [flatPs]
theorem flatP_mk (kd n : Int) (s : List UInt8) (ks : List Tr) : flatP (.mk kd n s ks) = flatPs kd ks := by rw [flatP]
theorem flatPs_all (kd : Int) : ∀ ks : List Tr, flatPs kd ks = true ↔ ∀ t ∈ ks, (kd == 32 && t.kind == 32) = false ∧ flatP t = true
  | [] => by rw [flatPs]; simp
  | t :: ts => by
    rw [flatPs_cons, Bool.and_eq_true, Bool.and_eq_true, flatPs_all kd ts]
    simp only [List.mem_cons, forall_eq_or_imp, Bool.not_eq_true']
theorem flatP_kids {t : Tr} (h : flatP t = true) : ∀ u ∈ t.kids, (t.kind == 32 && u.kind == 32) = false ∧ flatP u = true := by
  cases t with
  | mk kd n s ks => rw [flatP_mk] at h; exact (flatPs_all kd ks).1 h
mutual
theorem fuse_flat : ∀ t : Tr, flatP (fuseT t) = true
  | .mk kd n s ks => by rw [fuseT_mk, flatP_mk]; exact fuses_flat kd ks
theorem fuses_flat : ∀ (kd : Int) (ks : List Tr), flatPs kd (fuseTs kd ks) = true
  | kd, [] => by rw [fuseTs_nil, flatPs]
  | kd, t :: ts => by
    have h1 := fuse_flat t
    have h2 := fuses_flat kd ts
    rw [fuseTs_cons]
    rw [flatPs_all] at h2 ⊢
    intro u hu
    rcases List.mem_append.1 hu with hu | hu
    · split at hu
      · rename_i hc
        simp only [Bool.and_eq_true, beq_iff_eq] at hc
        have h3 := flatP_kids h1 u hu
        rw [hc.2] at h3
        rw [hc.1]
        exact h3
      · rename_i hc
        rw [List.mem_singleton.1 hu]
        exact ⟨by simpa using hc, h1⟩
    · exact h2 u hu
end
mutual
theorem fuse_id : ∀ t : Tr, flatP t = true → fuseT t = t
  | .mk kd n s ks, h => by rw [fuseT_mk, fuses_id kd ks (by rw [flatP_mk] at h; exact h)]
theorem fuses_id : ∀ (kd : Int) (ks : List Tr), flatPs kd ks = true → fuseTs kd ks = ks
  | kd, [], _ => fuseTs_nil kd
  | kd, t :: ts, h => by
    rw [flatPs_cons, Bool.and_eq_true, Bool.and_eq_true] at h
    rw [fuseTs_cons, fuse_id t h.1.2, fuses_id kd ts h.2]
    have h1 : (kd == 32 && t.kind == 32) = false := by simpa only [Bool.not_eq_true'] using h.1.1
    rw [h1]
    rfl
end
/-- At each place of a tree laid flat lies a tree; whatever is handed down to children holds of it. -/
theorem sub_at (P : Tr → Prop) (hP : ∀ t, P t → ∀ u ∈ t.kids, P u) : ∀ (N : Nat) (t : Tr) (i : Nat), (flat t).length ≤ N → P t → i < (flat t).length → ∃ u rest, P u ∧ (flat t).drop i = flat u ++ rest
  | 0, t, i, h, _, hi => by omega
  | N + 1, .mk kd n s ks, i, h, hp, hi => by
    cases i with
    | zero => exact ⟨.mk kd n s ks, [], hp, by simp⟩
    | succ i =>
      have hk := hP _ hp
      simp only [Tr.kids] at hk
      rw [flat_size] at h hi
      have hgo : ∀ (ks : List Tr) (i : Nat), (∀ u ∈ ks, P u) → (flatAll ks).length ≤ N → i < (flatAll ks).length → ∃ u rest, P u ∧ (flatAll ks).drop i = flat u ++ rest := by
        intro ks
        induction ks with
        | nil => intro i _ _ hi; rw [flatAll_nil] at hi; simp at hi
        | cons t ts iht =>
          intro i hks hN hi
          rw [flatAll_cons, List.length_append] at hN hi
          by_cases hlt : i < (flat t).length
          · obtain ⟨u, rest, h1, h2⟩ := sub_at P hP N t i (by omega) (hks t (by simp)) hlt
            refine ⟨u, rest ++ flatAll ts, h1, ?_⟩
            rw [flatAll_cons, List.drop_append_of_le_length (by omega), h2, List.append_assoc]
          · obtain ⟨u, rest, h1, h2⟩ := iht (i - (flat t).length) (fun u hu => hks u (by simp [hu])) (by omega) (by omega)
            refine ⟨u, rest, h1, ?_⟩
            rw [flatAll_cons, List.drop_append, List.drop_of_length_le (by omega), List.nil_append, h2]
      obtain ⟨u, rest, h1, h2⟩ := hgo ks i hk (by omega) (by omega)
      exact ⟨u, rest, h1, by rw [flat_mk, List.drop_succ_cons, h2]⟩
end Go.Proofs.YtpogngdddendiaaDoor

/- What chapter 20's statement rests on, on trees: numbers and strings of what may be, pipes counted, places of a tree laid flat. No condition. -/
set_option linter.unusedVariables false
set_option linter.unusedSimpArgs false
namespace Go.Proofs.YtpogngdddendiaaDoor

theorem nameB_len {s : List UInt8} (h : nameB s = true) : s.length ≤ 2000 := by
  cases s with
  | nil => simp
  | cons c t =>
    simp only [nameB, Bool.and_eq_true, decide_eq_true_eq] at h
    rw [List.length_cons]
    omega
theorem fields_s {x : Nd} (h : fieldsB x = true) : x.s.length ≤ 2000 := by
  have he : x.s.isEmpty = true → x.s.length ≤ 2000 := fun h => by rw [List.isEmpty_iff.1 h]; simp
  unfold fieldsB at h
  repeat' (split at h)
  all_goals try simp only [Bool.and_eq_true, Bool.or_eq_true, decide_eq_true_eq, beq_iff_eq, Bool.false_eq_true] at h
  · exact h.2
  · exact he h.2
  · exact he h.2
  · rcases h with h | h
    · exact nameB_len h
    · rw [h]; simp
  · exact nameB_len h
  · exact he h
/-- May be somewhere. -/
def OkAny (t : Tr) : Prop := ∃ d w, okT d w t = true
theorem okAll_mem {f : Nat → Tr → Bool} : ∀ (ts : List Tr) (k : Nat), okAll f k ts = true → ∀ t ∈ ts, ∃ k, f k t = true
  | [], _, _, t, h => by cases h
  | u :: ts, k, h, t, hm => by
    rw [okAll, Bool.and_eq_true] at h
    rcases List.mem_cons.1 hm with rfl | hm
    · exact ⟨k, h.1⟩
    · exact okAll_mem ts (k + 1) h.2 t hm
theorem okAny_kids (t : Tr) (h : OkAny t) : ∀ u ∈ t.kids, OkAny u := by
  obtain ⟨d, w, h⟩ := h
  cases t with
  | mk kd n s ks =>
    cases d with
    | zero => rw [okT] at h; cases h
    | succ d =>
      rw [okT] at h
      simp only [Bool.and_eq_true] at h
      intro u hu
      obtain ⟨k, hk⟩ := okAll_mem ks 0 h.2 u hu
      exact ⟨d, _, hk⟩
theorem okAny_fields {t : Tr} (h : OkAny t) : fieldsB ⟨t.kind, t.num, 0, 0, t.str⟩ = true := by
  obtain ⟨d, w, h⟩ := h
  cases t with
  | mk kd n s ks =>
    cases d with
    | zero => rw [okT] at h; cases h
    | succ d =>
      rw [okT] at h
      simp only [Bool.and_eq_true] at h
      exact h.1.1.2
theorem kids_len (t : Tr) : t.kids.length < (flat t).length := by
  have h1 := len_flatAll t.kids
  have h2 := flat_kids_le t
  omega
/-- The nodes of what may be: their strings and their numbers of children are small. -/
theorem ok_nd {t : Tr} (h : OkAny t) (hn : (flat t).length ≤ 4000000) : ∀ x ∈ flat t, NdOk x := by
  intro x hx
  obtain ⟨i, hi, rfl⟩ := List.mem_iff_getElem.1 hx
  obtain ⟨u, rest, hu, hd⟩ := sub_at OkAny okAny_kids _ t i (Nat.le_refl _) h hi
  obtain ⟨r, hr⟩ := flat_head u
  have hl := congrArg List.length hd
  rw [List.length_drop, List.length_append] at hl
  rw [List.drop_eq_getElem_cons hi, hr, List.cons_append] at hd
  injection hd with hd _
  rw [hd]
  have h1 := fields_s (okAny_fields hu)
  have h2 := kids_len u
  simp only at h1
  exact ⟨by simp only; omega, by simp only; omega⟩

def isPipe (x : Nd) : Bool := x.kind == 32
theorem pipes_mk (kd n : Int) (s : List UInt8) (ks : List Tr) : (flat (.mk kd n s ks)).countP isPipe = (if kd == 32 then 1 else 0) + (flatAll ks).countP isPipe := by
  rw [flat_mk, List.countP_cons, Nat.add_comm]
  rfl
mutual
theorem pipes_le : ∀ t : Tr, (flat (fuseT t)).countP isPipe ≤ (flat t).countP isPipe
  | .mk kd n s ks => by
    have h := pipess_le kd ks
    rw [fuseT_mk, pipes_mk, pipes_mk]
    omega
theorem pipess_le : ∀ (kd : Int) (ks : List Tr), (flatAll (fuseTs kd ks)).countP isPipe ≤ (flatAll ks).countP isPipe
  | kd, [] => by rw [fuseTs_nil]; exact Nat.le_refl _
  | kd, t :: ts => by
    have h1 := pipes_le t
    have h2 := pipess_le kd ts
    rw [fuseTs_cons, flatAll_append, flatAll_cons, List.countP_append, List.countP_append]
    have h3 : (flatAll (fuseT t).kids).countP isPipe ≤ (flat (fuseT t)).countP isPipe := by
      cases fuseT t with
      | mk kd n s ks => rw [pipes_mk]; simp only [Tr.kids]; omega
    split
    · omega
    · rw [flatAll_cons, flatAll_nil, List.append_nil]
      omega
end
/-- At a place of a tree laid flat: the tree there, its size, what lies there. -/
theorem place_at (P : Tr → Prop) (hP : ∀ t, P t → ∀ u ∈ t.kids, P u) {t : Tr} (h : P t) {i : Nat} (hi : i < (flat t).length) :
    ∃ u, P u ∧ (flat t)[i].kind = u.kind ∧ (flat t)[i].size = ((flat u).length : Int) ∧ i + (flat u).length ≤ (flat t).length ∧ ((flat t).drop i).take (flat u).length = flat u := by
  obtain ⟨u, rest, hu, hd⟩ := sub_at P hP _ t i (Nat.le_refl _) h hi
  have hl := congrArg List.length hd
  rw [List.length_drop, List.length_append] at hl
  obtain ⟨r, hr⟩ := flat_head u
  have hd2 := hd
  rw [List.drop_eq_getElem_cons hi, hr, List.cons_append] at hd2
  injection hd2 with hd2 _
  refine ⟨u, hu, by rw [hd2], by rw [hd2], by omega, by rw [hd, List.take_left]⟩
end Go.Proofs.YtpogngdddendiaaDoor
