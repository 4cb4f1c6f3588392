/- What can be reached from a place, found by a list of what is still to be looked at, in whatever order; with no program in sight. No condition. -/
import Derived.Test.YtpogngdddendiaaDoorGL
set_option linter.unusedVariables false
set_option linter.unusedSimpArgs false
namespace Go.Proofs.YtpogngdddendiaaDoor

section
variable (tg : Nat → List Nat)
inductive Rch : Nat → Prop
  | zero : Rch 0
  | step {i k : Nat} : Rch i → k ∈ tg i → Rch k
def isS (seen : List Bool) (i : Nat) : Prop := seen[i]? = some true
/-- What is seen; what is still to be looked at; one whose targets are being looked at, and those of them that are left. -/
structure WInv (n : Nat) (seen : List Bool) (W : List Nat) (at_ : Option Nat) (rest : List Nat) : Prop where
  len : seen.length = n
  zero : isS seen 0
  sound : ∀ i, isS seen i → Rch tg i
  work : ∀ i ∈ W, isS seen i
  closed : ∀ i, isS seen i → i ∈ W ∨ (∀ k ∈ tg i, isS seen k) ∨ (at_ = some i ∧ ∀ k ∈ tg i, isS seen k ∨ k ∈ rest)
  cur : ∀ i, at_ = some i → isS seen i ∧ ∀ k ∈ rest, k ∈ tg i
end
section
variable {tg : Nat → List Nat} {n : Nat} {seen : List Bool} {W rest : List Nat} {a : Option Nat}
theorem isS_set {k i : Nat} (hk : k < seen.length) : isS (seen.set k true) i ↔ i = k ∨ isS seen i := by
  unfold isS
  by_cases h : k = i
  · subst h
    rw [List.getElem?_set_self hk]
    exact ⟨fun _ => .inl rfl, fun _ => rfl⟩
  · rw [List.getElem?_set_ne h]
    exact ⟨.inr, fun h' => h'.resolve_left (fun e => h e.symm)⟩
theorem isS_lt {i : Nat} (h : isS seen i) : i < seen.length := (List.getElem?_eq_some_iff.1 h).1
theorem WInv.start (hn : 0 < n) : WInv tg n ((List.replicate n false).set 0 true) [0] none [] := by
  have hl : 0 < (List.replicate n false).length := by simpa using hn
  have h0 : ∀ i, ¬ isS (List.replicate n false) i := fun i h => by
    unfold isS at h
    rw [List.getElem?_replicate] at h
    split at h <;> simp at h
  refine ⟨by simp, (isS_set hl).2 (.inl rfl), fun i h => ?_, fun i h => ?_, fun i h => ?_, fun i h => by cases h⟩
  · rcases (isS_set hl).1 h with rfl | h
    · exact .zero
    · exact absurd h (h0 i)
  · rw [List.mem_singleton] at h
    exact (isS_set hl).2 (.inl h)
  · rcases (isS_set hl).1 h with rfl | h
    · exact .inl (List.mem_singleton.2 rfl)
    · exact absurd h (h0 i)
/-- One is taken, from whichever end. -/
theorem WInv.pop (h : WInv tg n seen W none []) {i : Nat} {W' : List Nat} (hW : ∀ j, j ∈ W ↔ j = i ∨ j ∈ W') : WInv tg n seen W' (some i) (tg i) := by
  have hi : isS seen i := h.work i ((hW i).2 (.inl rfl))
  refine ⟨h.len, h.zero, h.sound, fun j hj => h.work j ((hW j).2 (.inr hj)), fun j hj => ?_, fun j hj => ?_⟩
  · rcases h.closed j hj with h1 | h1 | ⟨h1, _⟩
    · rcases (hW j).1 h1 with rfl | h1
      · exact .inr (.inr ⟨rfl, fun k hk => .inr hk⟩)
      · exact .inl h1
    · exact .inr (.inl h1)
    · cases h1
  · injection hj with hj
    subst hj
    exact ⟨hi, fun k hk => hk⟩
/-- A target that is seen already. -/
theorem WInv.skip {k : Nat} (h : WInv tg n seen W a (k :: rest)) (hk : isS seen k) : WInv tg n seen W a rest := by
  refine ⟨h.len, h.zero, h.sound, h.work, fun j hj => ?_, fun j hj => ⟨(h.cur j hj).1, fun x hx => (h.cur j hj).2 x (List.mem_cons_of_mem _ hx)⟩⟩
  rcases h.closed j hj with h1 | h1 | ⟨h1, h2⟩
  · exact .inl h1
  · exact .inr (.inl h1)
  · refine .inr (.inr ⟨h1, fun x hx => ?_⟩)
    rcases h2 x hx with h3 | h3
    · exact .inl h3
    · rcases List.mem_cons.1 h3 with rfl | h3
      · exact .inl hk
      · exact .inr h3
/-- One that is not. -/
theorem WInv.push {k i : Nat} (h : WInv tg n seen W (some i) (k :: rest)) (hk : k < n) : WInv tg n (seen.set k true) (W ++ [k]) (some i) rest := by
  have hkl : k < seen.length := by rw [h.len]; exact hk
  have hc := h.cur i rfl
  refine ⟨by rw [List.length_set]; exact h.len, (isS_set hkl).2 (.inr h.zero), fun j hj => ?_, fun j hj => ?_, fun j hj => ?_, fun j hj => ?_⟩
  · rcases (isS_set hkl).1 hj with rfl | hj
    · exact .step (h.sound i hc.1) (hc.2 _ (List.mem_cons_self ..))
    · exact h.sound j hj
  · rcases List.mem_append.1 hj with hj | hj
    · exact (isS_set hkl).2 (.inr (h.work j hj))
    · exact (isS_set hkl).2 (.inl (List.mem_singleton.1 hj))
  · rcases (isS_set hkl).1 hj with rfl | hj
    · exact .inl (List.mem_append_right _ (List.mem_singleton.2 rfl))
    · rcases h.closed j hj with h1 | h1 | ⟨h1, h2⟩
      · exact .inl (List.mem_append_left _ h1)
      · exact .inr (.inl fun x hx => (isS_set hkl).2 (.inr (h1 x hx)))
      · refine .inr (.inr ⟨h1, fun x hx => ?_⟩)
        rcases h2 x hx with h3 | h3
        · exact .inl ((isS_set hkl).2 (.inr h3))
        · rcases List.mem_cons.1 h3 with rfl | h3
          · exact .inl ((isS_set hkl).2 (.inl rfl))
          · exact .inr h3
  · injection hj with hj
    subst hj
    exact ⟨(isS_set hkl).2 (.inr hc.1), fun x hx => hc.2 x (List.mem_cons_of_mem _ hx)⟩
theorem WInv.done (h : WInv tg n seen W a []) : WInv tg n seen W none [] := by
  refine ⟨h.len, h.zero, h.sound, h.work, fun j hj => ?_, fun j hj => by cases hj⟩
  rcases h.closed j hj with h1 | h1 | ⟨h1, h2⟩
  · exact .inl h1
  · exact .inr (.inl h1)
  · refine .inr (.inl fun x hx => (h2 x hx).resolve_right (by simp))
open Classical in
noncomputable def reachL (tg : Nat → List Nat) (n : Nat) : List Bool := (List.range n).map fun i => decide (Rch tg i)
open Classical in
theorem WInv.all (h : WInv tg n seen [] none []) : seen = reachL tg n := by
  have hr : ∀ i, Rch tg i → isS seen i := by
    intro i hi
    induction hi with
    | zero => exact h.zero
    | step _ hk ih =>
      rcases h.closed _ ih with h1 | h1 | ⟨h1, _⟩
      · cases h1
      · exact h1 _ hk
      · cases h1
  refine List.ext_getElem (by rw [h.len]; simp [reachL]) fun i h1 h2 => ?_
  simp only [reachL, List.getElem_map, List.getElem_range]
  cases hs : seen[i] with
  | true => exact (decide_eq_true (h.sound i (by unfold isS; rw [List.getElem?_eq_getElem h1, hs]))).symm
  | false =>
    refine (decide_eq_false fun hc => ?_).symm
    have := hr i hc
    unfold isS at this
    rw [List.getElem?_eq_getElem h1, hs] at this
    cases this
/-- How much is left to do. -/
def wmeas (seen : List Bool) (W : List Nat) : Nat := 2 * seen.count false + W.length
theorem count_set {k : Nat} : ∀ {seen : List Bool} {k : Nat}, seen[k]? = some false → (seen.set k true).count false + 1 = seen.count false
  | [], k, h => by simp at h
  | b :: t, 0, h => by
    simp at h
    subst h
    simp
  | b :: t, k + 1, h => by
    have := count_set (k := k) (seen := t) (by simpa using h)
    rw [List.set_cons_succ, List.count_cons, List.count_cons]
    omega
end
end Go.Proofs.YtpogngdddendiaaDoor

/- Jumps: cycles of jumps, where jumps end, jumps made straight; with no program in sight. No condition. -/
set_option linter.unusedVariables false
set_option linter.unusedSimpArgs false
namespace Go.Proofs.YtpogngdddendiaaDoor

/-- Where a jump leads. -/
def jmp (X : List Ins) (i : Nat) : Option Nat := match X[i]? with
  | some x => if x.op = 18 then some x.a.toNat else none
  | none => none
def jit (X : List Ins) : Nat → Nat → Option Nat
  | 0, i => some i
  | k + 1, i => (jmp X i).bind (jit X k)
def Cyc (X : List Ins) (i : Nat) : Prop := ∃ k, jit X (k + 1) i = some i
noncomputable instance cycDec (X : List Ins) (i : Nat) : Decidable (Cyc X i) := Classical.propDecidable _
def On (X : List Ins) (i j : Nat) : Prop := ∃ k, jit X k i = some j
theorem jit_add (X : List Ins) : ∀ a b i, jit X (a + b) i = (jit X a i).bind (jit X b)
  | 0, b, i => by rw [Nat.zero_add]; rfl
  | a + 1, b, i => by
    rw [Nat.add_right_comm]
    show (jmp X i).bind (jit X (a + b)) = ((jmp X i).bind (jit X a)).bind (jit X b)
    cases jmp X i with
    | none => rfl
    | some j => exact jit_add X a b j
theorem jit_one (X : List Ins) (i : Nat) : jit X 1 i = jmp X i := by
  show (jmp X i).bind (jit X 0) = _
  cases jmp X i <;> rfl
theorem On.refl (X : List Ins) (i : Nat) : On X i i := ⟨0, rfl⟩
theorem On.trans {X : List Ins} {i j k : Nat} : On X i j → On X j k → On X i k
  | ⟨a, ha⟩, ⟨b, hb⟩ => ⟨a + b, by rw [jit_add, ha]; exact hb⟩
theorem On.step {X : List Ins} {i j : Nat} (h : jmp X i = some j) : On X i j := ⟨1, by rw [jit_one, h]⟩
theorem Cyc.jmp {X : List Ins} {i : Nat} : Cyc X i → ∃ a, jmp X i = some a ∧ Cyc X a ∧ On X a i
  | ⟨k, hk⟩ => by
    have h2 : (Go.Proofs.YtpogngdddendiaaDoor.jmp X i).bind (jit X k) = some i := hk
    cases hj : Go.Proofs.YtpogngdddendiaaDoor.jmp X i with
    | none => rw [hj] at h2; cases h2
    | some a =>
      rw [hj] at h2
      exact ⟨a, rfl, ⟨k, by rw [jit_add, show jit X k a = some i from h2]; show jit X 1 i = _; rw [jit_one, hj]⟩, ⟨k, h2⟩⟩
theorem Cyc.none {X : List Ins} {i : Nat} (h : Cyc X i) (hn : Go.Proofs.YtpogngdddendiaaDoor.jmp X i = none) : False := by
  obtain ⟨a, ha, _⟩ := h.jmp
  rw [ha] at hn; cases hn
theorem Cyc.on {X : List Ins} : ∀ {i j : Nat}, Cyc X i → On X i j → Cyc X j ∧ On X j i := by
  intro i j hc ⟨k, hk⟩
  induction k generalizing i with
  | zero => injection hk with hk; subst hk; exact ⟨hc, On.refl _ _⟩
  | succ k ih =>
    obtain ⟨a, ha, hca, hao⟩ := hc.jmp
    have : (Go.Proofs.YtpogngdddendiaaDoor.jmp X i).bind (jit X k) = some j := hk
    rw [ha] at this
    obtain ⟨h1, h2⟩ := ih hca this
    exact ⟨h1, h2.trans hao⟩
theorem Cyc.of_on {X : List Ins} {i a : Nat} (h : Go.Proofs.YtpogngdddendiaaDoor.jmp X i = some a) (ho : On X a i) : Cyc X i := by
  obtain ⟨k, hk⟩ := ho
  exact ⟨k, by show (Go.Proofs.YtpogngdddendiaaDoor.jmp X i).bind _ = _; rw [h]; exact hk⟩

theorem pigeon : ∀ (n : Nat) (f : Nat → Nat), (∀ k, k ≤ n → f k < n) → ∃ a b, a < b ∧ b ≤ n ∧ f a = f b
  | 0, f, h => absurd (h 0 (Nat.le_refl _)) (Nat.not_lt_zero _)
  | n + 1, f, h => by
    by_cases he : ∃ a, a ≤ n ∧ f a = f (n + 1)
    · obtain ⟨a, ha, e⟩ := he
      exact ⟨a, n + 1, by omega, Nat.le_refl _, e⟩
    · have hne : ∀ a, a ≤ n → f a ≠ f (n + 1) := fun a ha e => he ⟨a, ha, e⟩
      obtain ⟨a, b, hab, hb, e⟩ := pigeon n (fun k => if f k < f (n + 1) then f k else f k - 1) (fun k hk => by
        have h1 := h k (by omega)
        have h2 := h (n + 1) (Nat.le_refl _)
        have h3 := hne k hk
        show (if f k < f (n + 1) then f k else f k - 1) < n
        split <;> omega)
      refine ⟨a, b, hab, by omega, ?_⟩
      have h1 := hne a (by omega)
      have h2 := hne b hb
      replace e : (if f a < f (n + 1) then f a else f a - 1) = (if f b < f (n + 1) then f b else f b - 1) := e
      split at e <;> split at e <;> omega

/-- So many jumps that are not stopped at lead from a place to one where one stops. -/
inductive EndN (X : List Ins) (C : Nat → Prop) : Nat → Nat → Nat → Prop
  | stop {i : Nat} : jmp X i = none ∨ C i → EndN X C 0 i i
  | go {k i a j : Nat} : jmp X i = some a → ¬ C i → EndN X C k a j → EndN X C (k + 1) i j
theorem EndN.uniq {X : List Ins} {C : Nat → Prop} {k i j : Nat} (h : EndN X C k i j) : ∀ {k' j' : Nat}, EndN X C k' i j' → k = k' ∧ j = j' := by
  induction h with
  | stop hs =>
    intro k' j' h'
    cases h' with
    | stop _ => exact ⟨rfl, rfl⟩
    | go h1 h2 _ => rcases hs with hs | hs
                    · rw [h1] at hs; cases hs
                    · exact absurd hs h2
  | go h1 h2 _ ih =>
    intro k' j' h'
    cases h' with
    | stop hs => rcases hs with hs | hs
                 · rw [h1] at hs; cases hs
                 · exact absurd hs h2
    | go h3 h4 h5 =>
      rw [h1] at h3
      injection h3 with h3
      subst h3
      obtain ⟨rfl, rfl⟩ := ih h5
      exact ⟨rfl, rfl⟩
theorem EndN.last {X : List Ins} {C : Nat → Prop} {k i j : Nat} (h : EndN X C k i j) : jmp X j = none ∨ C j := by
  induction h with
  | stop hs => exact hs
  | go _ _ _ ih => exact ih
/-- Its places are in it. -/
def JR (X : List Ins) : Prop := ∀ i a, jmp X i = some a → a < X.length
theorem EndN.lt {X : List Ins} {C : Nat → Prop} (hr : JR X) {k i j : Nat} (h : EndN X C k i j) (hi : i < X.length) : j < X.length := by
  induction h with
  | stop _ => exact hi
  | go h1 _ _ ih => exact ih (hr _ _ h1)
theorem EndN.on {X : List Ins} {C : Nat → Prop} {k i j : Nat} (h : EndN X C k i j) : On X i j := by
  induction h with
  | stop _ => exact On.refl _ _
  | go h1 _ _ ih => exact (On.step h1).trans ih
theorem end_some {X : List Ins} (hr : JR X) (i : Nat) (hi : i < X.length) : ∃ k j, EndN X (Cyc X) k i j := by
  apply Classical.byContradiction
  intro hno
  have h1 : ∀ k, ∃ v, jit X k i = some v ∧ v < X.length ∧ ¬ ∃ k j, EndN X (Cyc X) k v j := by
    intro k
    induction k with
    | zero => exact ⟨i, rfl, hi, hno⟩
    | succ k ih =>
      obtain ⟨v, hv, hvl, hvn⟩ := ih
      cases hj : jmp X v with
      | none => exact absurd ⟨0, v, .stop (.inl hj)⟩ hvn
      | some a =>
        refine ⟨a, by rw [jit_add, hv]; show jit X 1 v = _; rw [jit_one, hj], hr _ _ hj, fun ⟨k', j', h'⟩ => ?_⟩
        by_cases hc : Cyc X v
        · exact hvn ⟨0, v, .stop (.inr hc)⟩
        · exact hvn ⟨k' + 1, j', .go hj hc h'⟩
  obtain ⟨a, b, hab, _, e⟩ := pigeon X.length (fun k => Classical.choose (h1 k)) (fun k _ => (Classical.choose_spec (h1 k)).2.1)
  obtain ⟨ha, _, hna⟩ := Classical.choose_spec (h1 a)
  have hb := (Classical.choose_spec (h1 b)).1
  replace e : Classical.choose (h1 a) = Classical.choose (h1 b) := e
  rw [← e] at hb
  generalize Classical.choose (h1 a) = v at *
  obtain ⟨d, rfl⟩ : ∃ d, b = a + (d + 1) := ⟨b - a - 1, by omega⟩
  rw [jit_add, ha] at hb
  exact hna ⟨0, v, .stop (.inr ⟨d, hb⟩)⟩
open Classical in
noncomputable def endF (X : List Ins) (i : Nat) : Nat := if h : ∃ j k, EndN X (Cyc X) k i j then h.choose else i
open Classical in
noncomputable def endK (X : List Ins) (C : Nat → Prop) (i : Nat) : Nat := if h : ∃ k j, EndN X C k i j then h.choose else 0
theorem endF_eq {X : List Ins} {k i j : Nat} (h : EndN X (Cyc X) k i j) : endF X i = j := by
  have hx : ∃ j k, EndN X (Cyc X) k i j := ⟨j, k, h⟩
  unfold endF
  rw [dif_pos hx]
  obtain ⟨k', h'⟩ := hx.choose_spec
  exact (h'.uniq h).2
theorem endK_eq {X : List Ins} {C : Nat → Prop} {k i j : Nat} (h : EndN X C k i j) : endK X C i = k := by
  have hx : ∃ k j, EndN X C k i j := ⟨k, j, h⟩
  unfold endK
  rw [dif_pos hx]
  obtain ⟨j', h'⟩ := hx.choose_spec
  exact (h'.uniq h).1
theorem endF_spec {X : List Ins} (hr : JR X) {i : Nat} (hi : i < X.length) : ∃ k, EndN X (Cyc X) k i (endF X i) := by
  obtain ⟨k, j, h⟩ := end_some hr i hi
  rw [endF_eq h]
  exact ⟨k, h⟩
theorem endF_lt {X : List Ins} (hr : JR X) {i : Nat} (hi : i < X.length) : endF X i < X.length := by
  obtain ⟨k, h⟩ := endF_spec hr hi
  exact h.lt hr hi
theorem endF_stop {X : List Ins} {i : Nat} (h : jmp X i = none ∨ Cyc X i) : endF X i = i := endF_eq (.stop h)

/-- Where jumps are led straight to where they end, all ends are as they were. -/
theorem EndN.alike {X X' : List Ins} {C : Nat → Prop} (h0 : ∀ i, jmp X i = none → jmp X' i = none) (h1 : ∀ i a, jmp X i = some a → ¬ C i → jmp X' i = some a ∨ ∃ m j, EndN X C m a j ∧ jmp X' i = some j) {m i j : Nat} (h : EndN X C m i j) : ∃ m', EndN X' C m' i j := by
  induction h with
  | stop hs => exact ⟨0, .stop (hs.imp_left (h0 _))⟩
  | @go k i a j h2 h3 h4 ih =>
    obtain ⟨m', hm⟩ := ih
    rcases h1 _ _ h2 h3 with h5 | ⟨m2, j2, h5, h6⟩
    · exact ⟨m' + 1, .go h5 h3 hm⟩
    · obtain ⟨_, rfl⟩ := h4.uniq h5
      exact ⟨1, .go h6 h3 (.stop (h4.last.imp_left (h0 _)))⟩

noncomputable def cycB (X : List Ins) (i : Nat) : Bool := decide (Cyc X i)
theorem cycB_iff {X : List Ins} {i : Nat} : cycB X i = true ↔ Cyc X i := by unfold cycB; exact decide_eq_true_iff
theorem cycB_not {X : List Ins} {i : Nat} : cycB X i = false ↔ ¬ Cyc X i := by unfold cycB; exact decide_eq_false_iff_not
noncomputable def strI (X : List Ins) (i : Nat) (x : Ins) : Ins := { x with a := if (placeA x.op && !cycB X i) = true then (endF X x.a.toNat : Int) else x.a, b := if placeB x.op = true then (endF X x.b.toNat : Int) else x.b }
/-- The first k are made straight. -/
noncomputable def strK (X : List Ins) (k : Nat) : List Ins := X.mapIdx fun i x => if i < k then strI X i x else x
noncomputable def straightX (X : List Ins) : List Ins := strK X X.length
theorem strK_length (X : List Ins) (k : Nat) : (strK X k).length = X.length := by simp [strK]
theorem strK_get? (X : List Ins) (k i : Nat) : (strK X k)[i]? = X[i]?.map fun x => if i < k then strI X i x else x := by simp [strK]
theorem strI_op (X : List Ins) (i : Nat) (x : Ins) : (strI X i x).op = x.op := rfl
theorem strK_zero (X : List Ins) : strK X 0 = X := by
  refine List.ext_getElem? fun i => ?_
  rw [strK_get?]
  cases X[i]? <;> simp
theorem strK_succ (X : List Ins) (k : Nat) (h : k < X.length) : strK X (k + 1) = (strK X k).set k (strI X k X[k]) := by
  refine List.ext_getElem? fun i => ?_
  rw [List.getElem?_set, strK_length, strK_get?, strK_get?]
  by_cases e : k = i
  · subst e
    rw [if_pos rfl, if_pos h, List.getElem?_eq_getElem h]
    simp
  · rw [if_neg e]
    cases X[i]? with
    | none => rfl
    | some x =>
      have : (i < k + 1) = (i < k) := by simp only [eq_iff_iff]; omega
      simp only [Option.map_some, this]
theorem jmp_of {X : List Ins} {i : Nat} {x : Ins} (h : X[i]? = some x) : jmp X i = if x.op = 18 then some x.a.toNat else none := by unfold jmp; rw [h]
theorem jmp_out {X : List Ins} {i : Nat} (h : X[i]? = none) : jmp X i = none := by unfold jmp; rw [h]
theorem place18 {op : Int} (h : op = 18) : placeA op = true := by rw [h]; rfl
theorem jmp_strK (X : List Ins) (k i : Nat) : jmp (strK X k) i = (jmp X i).map fun a => if i < k ∧ ¬ Cyc X i then endF X a else a := by
  cases hx : X[i]? with
  | none => rw [jmp_out hx, jmp_out (by rw [strK_get?, hx]; rfl)]; rfl
  | some x =>
    rw [jmp_of hx, jmp_of (x := if i < k then strI X i x else x) (by rw [strK_get?, hx]; rfl)]
    by_cases hk : i < k
    · simp only [if_pos hk, strI_op]
      by_cases h18 : x.op = 18
      · rw [if_pos h18, if_pos h18, Option.map_some]
        unfold strI
        rw [place18 h18, Bool.true_and]
        by_cases hc : Cyc X i
        · rw [cycB_iff.2 hc]; simp [hc]
        · rw [cycB_not.2 hc]; simp [hc, hk]
      · rw [if_neg h18, if_neg h18]; rfl
    · simp only [if_neg hk]
      by_cases h18 : x.op = 18
      · rw [if_pos h18, Option.map_some, if_neg (fun h => hk h.1)]
      · rw [if_neg h18]; rfl
theorem end_strK {X : List Ins} (hr : JR X) (k : Nat) {i : Nat} (hi : i < X.length) : ∃ m, EndN (strK X k) (Cyc X) m i (endF X i) := by
  obtain ⟨m, h⟩ := endF_spec hr hi
  refine EndN.alike (fun i hn => by rw [jmp_strK, hn]; rfl) (fun i a hj hc => ?_) h
  rw [jmp_strK, hj, Option.map_some]
  by_cases hk : i < k
  · obtain ⟨m', h'⟩ := endF_spec hr (hr _ _ hj)
    exact .inr ⟨m', _, h', by rw [if_pos ⟨hk, hc⟩]⟩
  · exact .inl (by rw [if_neg (fun h => hk h.1)])
theorem jit_str {X : List Ins} : ∀ (k i : Nat), Cyc X i → jit (straightX X) k i = jit X k i
  | 0, i, _ => rfl
  | k + 1, i, hc => by
    obtain ⟨a, ha, hca, _⟩ := hc.jmp
    show (jmp (straightX X) i).bind _ = (jmp X i).bind _
    rw [straightX, jmp_strK, ha, Option.map_some, if_neg (fun h => h.2 hc)]
    exact jit_str k a hca
theorem cyc_str {X : List Ins} (hr : JR X) {i : Nat} : Cyc (straightX X) i ↔ Cyc X i := by
  constructor
  · intro h
    apply Classical.byContradiction
    intro hn
    obtain ⟨e, he, hce, hei⟩ := h.jmp
    have he0 := he
    rw [straightX, jmp_strK] at he
    cases hj : jmp X i with
    | none => rw [hj] at he; cases he
    | some a =>
      have hi : i < X.length := by
        apply Classical.byContradiction
        intro hi
        rw [jmp_out (List.getElem?_eq_none (by omega))] at hj
        cases hj
      rw [hj, Option.map_some, if_pos ⟨hi, hn⟩] at he
      injection he with he
      obtain ⟨m, hm⟩ := endF_spec hr (hr _ _ hj)
      rw [he] at hm
      rcases hm.last with h1 | h1
      · exact hce.none (by rw [straightX, jmp_strK, h1]; rfl)
      · obtain ⟨k, hk⟩ := hei
        rw [jit_str k e h1] at hk
        exact hn (h1.on ⟨k, hk⟩).1
  · rintro ⟨k, hk⟩
    exact ⟨k, by rw [jit_str (k + 1) i ⟨k, hk⟩]; exact hk⟩
/-- Places are in the code. -/
def PR (X : List Ins) : Prop := ∀ x ∈ X, (placeA x.op = true → 0 ≤ x.a ∧ x.a < X.length) ∧ (placeB x.op = true → 0 ≤ x.b ∧ x.b < X.length)
theorem PR.jr {X : List Ins} (h : PR X) : JR X := by
  intro i a hj
  cases hx : X[i]? with
  | none => rw [jmp_out hx] at hj; cases hj
  | some x =>
    rw [jmp_of hx] at hj
    by_cases h18 : x.op = 18
    · rw [if_pos h18] at hj
      injection hj with hj
      have := (h x (List.mem_of_getElem? hx)).1 (place18 h18)
      omega
    · rw [if_neg h18] at hj; cases hj
theorem str_stop {X : List Ins} (hr : JR X) {i : Nat} (hi : i < X.length) : endF (straightX X) (endF X i) = endF X i := by
  obtain ⟨k, h⟩ := endF_spec hr hi
  refine endF_stop ?_
  rcases h.last with h | h
  · exact .inl (by rw [straightX, jmp_strK, h]; rfl)
  · exact .inr ((cyc_str hr).2 h)
theorem str_str {X : List Ins} (h : PR X) : straightX (straightX X) = straightX X := by
  have hr := h.jr
  refine List.ext_getElem? fun i => ?_
  conv => lhs; rw [straightX, strK_get?, straightX, strK_length, strK_get?]
  conv => rhs; rw [straightX, strK_get?]
  cases hx : X[i]? with
  | none => rfl
  | some x =>
    have hi : i < X.length := (List.getElem?_eq_some_iff.1 hx).1
    obtain ⟨h1, h2⟩ := h x (List.mem_of_getElem? hx)
    simp only [Option.map_some, if_pos hi, Option.some.injEq]
    have hcb : cycB (straightX X) i = cycB X i := by
      rw [Bool.eq_iff_iff, cycB_iff, cycB_iff]; exact cyc_str hr
    show strI (straightX X) i (strI X i x) = strI X i x
    have ha : (if (placeA x.op && !cycB X i) = true then (endF (straightX X) (if (placeA x.op && !cycB X i) = true then (endF X x.a.toNat : Int) else x.a).toNat : Int) else (if (placeA x.op && !cycB X i) = true then (endF X x.a.toNat : Int) else x.a)) = (if (placeA x.op && !cycB X i) = true then (endF X x.a.toNat : Int) else x.a) := by
      by_cases hc : (placeA x.op && !cycB X i) = true
      · rw [if_pos hc, if_pos hc, Int.toNat_natCast, str_stop hr]
        have := h1 (by simp at hc; exact hc.1)
        omega
      · rw [if_neg hc]
    have hb : (if placeB x.op = true then (endF (straightX X) (if placeB x.op = true then (endF X x.b.toNat : Int) else x.b).toNat : Int) else (if placeB x.op = true then (endF X x.b.toNat : Int) else x.b)) = (if placeB x.op = true then (endF X x.b.toNat : Int) else x.b) := by
      by_cases hc : placeB x.op = true
      · rw [if_pos hc, if_pos hc, Int.toNat_natCast, str_stop hr]
        have := h2 hc
        omega
      · rw [if_neg hc]
    unfold strI
    rw [hcb]
    simp only
    rw [ha, hb]
theorem str_pr {X : List Ins} (h : PR X) : PR (straightX X) := by
  have hr := h.jr
  intro y hy
  obtain ⟨i, hi⟩ := List.mem_iff_getElem?.1 hy
  rw [straightX, strK_get?] at hi
  cases hx : X[i]? with
  | none => rw [hx] at hi; cases hi
  | some x =>
    have hil : i < X.length := (List.getElem?_eq_some_iff.1 hx).1
    rw [hx, Option.map_some, if_pos hil] at hi
    injection hi with hi
    subst hi
    obtain ⟨h1, h2⟩ := h x (List.mem_of_getElem? hx)
    rw [straightX, strK_length, strI_op]
    unfold strI
    simp only
    constructor
    · intro hp
      have h3 := h1 hp
      by_cases hc : (placeA x.op && !cycB X i) = true
      · rw [if_pos hc]
        have := endF_lt hr (i := x.a.toNat) (by omega)
        omega
      · rw [if_neg hc]; exact h3
    · intro hp
      have h3 := h2 hp
      rw [if_pos hp]
      have := endF_lt hr (i := x.b.toNat) (by omega)
      omega
/-- Where making straight changes nothing, a place is no jump but on a cycle. -/
theorem str_fix {X : List Ins} (h : PR X) (hf : straightX X = X) {i : Nat} {x : Ins} (hx : X[i]? = some x) :
    (placeA x.op = true → jmp X x.a.toNat = none ∨ Cyc X x.a.toNat) ∧ (placeB x.op = true → jmp X x.b.toNat = none ∨ Cyc X x.b.toNat) := by
  have hr := h.jr
  have hil : i < X.length := (List.getElem?_eq_some_iff.1 hx).1
  have he : strI X i x = x := by
    have h0 : (straightX X)[i]? = some (strI X i x) := by rw [straightX, strK_get?, hx, Option.map_some, if_pos hil]
    rw [hf, hx] at h0
    exact (Option.some.inj h0).symm
  obtain ⟨h1, h2⟩ := h x (List.mem_of_getElem? hx)
  constructor
  · intro hp
    have h3 := h1 hp
    by_cases hc : Cyc X i
    · by_cases h18 : x.op = 18
      · obtain ⟨a, ha, hca, _⟩ := hc.jmp
        rw [jmp_of hx, if_pos h18] at ha
        injection ha with ha
        rw [ha]
        exact .inr hca
      · exact absurd (by rw [jmp_of hx, if_neg h18]) (fun e => hc.none e)
    · have ha : (endF X x.a.toNat : Int) = x.a := by
        have := congrArg Ins.a he
        unfold strI at this
        simp only at this
        rwa [if_pos (by rw [hp, cycB_not.2 hc]; rfl)] at this
      obtain ⟨k, hk⟩ := endF_spec hr (i := x.a.toNat) (by omega)
      have := hk.last
      rwa [show endF X x.a.toNat = x.a.toNat by omega] at this
  · intro hp
    have h3 := h2 hp
    have hb : (endF X x.b.toNat : Int) = x.b := by
      have := congrArg Ins.b he
      unfold strI at this
      simp only at this
      rwa [if_pos hp] at this
    obtain ⟨k, hk⟩ := endF_spec hr (i := x.b.toNat) (by omega)
    have := hk.last
    rwa [show endF X x.b.toNat = x.b.toNat by omega] at this
end Go.Proofs.YtpogngdddendiaaDoor

/- How the jumps on cycles are found, by ways that are marked; with no program in sight. No condition. -/
set_option linter.unusedVariables false
set_option linter.unusedSimpArgs false
namespace Go.Proofs.YtpogngdddendiaaDoor

def met (S : List Nat) (j : Nat) : Prop := ∃ v, S[j]? = some v ∧ v ≠ 0
theorem met_set {S : List Nat} {k v j : Nat} (hk : k < S.length) (hv : v ≠ 0) : met (S.set k v) j ↔ j = k ∨ met S j := by
  unfold met
  by_cases h : k = j
  · subst h
    rw [List.getElem?_set_self hk]
    exact ⟨fun _ => .inl rfl, fun _ => ⟨v, rfl, hv⟩⟩
  · rw [List.getElem?_set_ne h]
    exact ⟨.inr, fun h' => h'.resolve_left (fun e => h e.symm)⟩
/-- The first i ways are marked. -/
structure MarkI (X : List Ins) (i : Nat) (S : List Nat) (C : List Bool) : Prop where
  lenS : S.length = X.length
  lenC : C.length = X.length
  jmpd : ∀ j, met S j → ∃ a, jmp X j = some a ∧ (jmp X a = none ∨ met S a)
  le : ∀ (j v : Nat), S[j]? = some v → v ≤ i
  cyc : ∀ j, isS C j ↔ met S j ∧ Cyc X j
  done : ∀ j, j < i → jmp X j = none ∨ met S j
/-- A way from i on has come to a place. -/
structure WayI (X : List Ins) (i : Nat) (S0 S : List Nat) (at_ : Nat) : Prop where
  len : S.length = X.length
  lt : at_ < X.length
  old : ∀ j, met S0 j → S[j]? = S0[j]?
  new : ∀ (j v : Nat), S[j]? = some v → v ≠ 0 → met S0 j ∨ v = i + 1
  newj : ∀ j, S[j]? = some (i + 1) → ∃ a, jmp X j = some a ∧ (met S a ∨ a = at_)
  lead : ∀ j, S[j]? = some (i + 1) → ∃ k, jit X (k + 1) j = some at_
  start : i = at_ ∨ met S i
section
variable {X : List Ins} {i : Nat} {S0 S : List Nat} {C0 C : List Bool} {at_ : Nat}
theorem MarkI.begin (X : List Ins) : MarkI X 0 (List.replicate X.length 0) (List.replicate X.length false) := by
  have hm : ∀ j, ¬ met (List.replicate X.length 0) j := fun j ⟨v, h1, h2⟩ => by
    rw [List.getElem?_replicate] at h1
    split at h1
    · injection h1 with h1; exact h2 h1.symm
    · cases h1
  refine ⟨by simp, by simp, fun j h => absurd h (hm j), fun j v h => ?_, fun j => ⟨fun h => ?_, fun h => absurd h.1 (hm j)⟩, fun j h => absurd h (Nat.not_lt_zero _)⟩
  · rw [List.getElem?_replicate] at h
    split at h
    · injection h with h; omega
    · cases h
  · unfold isS at h
    rw [List.getElem?_replicate] at h
    split at h <;> simp at h
theorem MarkI.fresh (h : MarkI X i S0 C) {j : Nat} : S0[j]? ≠ some (i + 1) := fun e => by
  have := h.le j _ e
  omega
theorem MarkI.way (h : MarkI X i S0 C) (hi : i < X.length) : WayI X i S0 S0 i :=
  ⟨h.lenS, hi, fun _ _ => rfl, fun j v h1 h2 => .inl ⟨v, h1, h2⟩, fun j h1 => absurd h1 h.fresh, fun j h1 => absurd h1 h.fresh, .inl rfl⟩
theorem WayI.step (hr : JR X) (w : WayI X i S0 S at_) {a : Nat} (hj : jmp X at_ = some a) (hz : S[at_]? = some 0) : WayI X i S0 (S.set at_ (i + 1)) a := by
  have hl : at_ < S.length := by rw [w.len]; exact w.lt
  have hm := fun j => met_set (S := S) (k := at_) (v := i + 1) (j := j) hl (Nat.succ_ne_zero _)
  have hget : ∀ j, j ≠ at_ → (S.set at_ (i + 1))[j]? = S[j]? := fun j h => List.getElem?_set_ne (fun e => h e.symm)
  have hself : (S.set at_ (i + 1))[at_]? = some (i + 1) := List.getElem?_set_self hl
  refine ⟨by rw [List.length_set]; exact w.len, hr _ _ hj, fun j hj0 => ?_, fun j v h1 h2 => ?_, fun j h1 => ?_, fun j h1 => ?_, ?_⟩
  · by_cases e : j = at_
    · subst e
      obtain ⟨v, hv, hv0⟩ := hj0
      have := w.old j ⟨v, hv, hv0⟩
      rw [hz, hv] at this
      injection this with this
      exact absurd this.symm hv0
    · rw [hget j e]; exact w.old j hj0
  · by_cases e : j = at_
    · subst e
      rw [hself] at h1
      injection h1 with h1
      exact .inr h1.symm
    · rw [hget j e] at h1; exact w.new j v h1 h2
  · by_cases e : j = at_
    · subst e
      exact ⟨a, hj, .inr rfl⟩
    · rw [hget j e] at h1
      obtain ⟨b, hb, h2⟩ := w.newj j h1
      exact ⟨b, hb, .inl ((hm b).2 (h2.elim .inr .inl))⟩
  · by_cases e : j = at_
    · subst e
      exact ⟨0, by rw [jit_one, hj]⟩
    · rw [hget j e] at h1
      obtain ⟨k, hk⟩ := w.lead j h1
      exact ⟨k + 1, by rw [jit_add, hk]; show jit X 1 at_ = _; rw [jit_one, hj]⟩
  · exact .inr ((hm i).2 w.start)
theorem WayI.met_old (w : WayI X i S0 S at_) {j : Nat} (h : met S0 j) : met S j := by
  obtain ⟨v, hv, h0⟩ := h
  exact ⟨v, by rw [w.old j ⟨v, hv, h0⟩]; exact hv, h0⟩
theorem WayI.met_cases (w : WayI X i S0 S at_) {j : Nat} (h : met S j) : met S0 j ∨ S[j]? = some (i + 1) := by
  obtain ⟨v, hv, h0⟩ := h
  rcases w.new j v hv h0 with h1 | h1
  · exact .inl h1
  · exact .inr (by rw [hv, h1])
theorem MarkI.old_closed (m : MarkI X i S0 C) {j k : Nat} (hj : met S0 j) (hc : Cyc X j) (ho : On X j k) : met S0 k := by
  obtain ⟨d, hd⟩ := ho
  induction d generalizing j with
  | zero => injection hd with hd; subst hd; exact hj
  | succ d ih =>
    obtain ⟨a, ha, hca, _⟩ := hc.jmp
    have hd2 : (jmp X j).bind (jit X d) = some k := hd
    rw [ha] at hd2
    obtain ⟨b, hb, hb2⟩ := m.jmpd j hj
    rw [ha] at hb
    injection hb with hb
    subst hb
    rcases hb2 with hb2 | hb2
    · exact absurd hb2 (fun e => hca.none e)
    · exact ih hb2 hca hd2
/-- The way's end, whatever it is: all that the next way asks but for the cycles. -/
theorem WayI.next (m : MarkI X i S0 C) (w : WayI X i S0 S at_) (he : jmp X at_ = none ∨ met S at_) (hC : C0.length = X.length) (hcyc : ∀ j, isS C0 j ↔ met S j ∧ Cyc X j) : MarkI X (i + 1) S C0 := by
  refine ⟨w.len, hC, fun j hj => ?_, fun j v hv => ?_, hcyc, fun j hj => ?_⟩
  · rcases w.met_cases hj with h | h
    · obtain ⟨a, ha, h2⟩ := m.jmpd j h
      exact ⟨a, ha, h2.imp_right w.met_old⟩
    · obtain ⟨a, ha, h2⟩ := w.newj j h
      refine ⟨a, ha, ?_⟩
      rcases h2 with h2 | h2
      · exact .inr h2
      · subst h2; exact he
  · by_cases h0 : v = 0
    · omega
    · rcases w.new j v hv h0 with h | h
      · have := w.old j h
        rw [hv] at this
        have := m.le j v this.symm
        omega
      · omega
  · by_cases e : j = i
    · subst e
      rcases w.start with h | h
      · rw [h]; exact he
      · exact .inr h
    · exact (m.done j (by omega)).imp_right w.met_old
/-- It came to no jump, or to an older way. -/
theorem WayI.plain (m : MarkI X i S0 C) (w : WayI X i S0 S at_) (he : jmp X at_ = none ∨ met S at_ ∧ S[at_]? ≠ some (i + 1)) : MarkI X (i + 1) S C := by
  refine w.next m (he.imp_right And.left) m.lenC fun j => ?_
  rw [m.cyc]
  refine ⟨fun h => ⟨w.met_old h.1, h.2⟩, fun ⟨h1, h2⟩ => ⟨?_, h2⟩⟩
  rcases w.met_cases h1 with h | h
  · exact h
  · exfalso
    obtain ⟨k, hk⟩ := w.lead j h
    obtain ⟨hca, hback⟩ := h2.on ⟨k + 1, hk⟩
    rcases he with he | ⟨he, hne⟩
    · exact hca.none he
    · rcases w.met_cases he with h3 | h3
      · have h4 := m.old_closed h3 hca hback
        have := w.old j h4
        rw [h] at this
        exact m.fresh this.symm
      · exact hne h3
/-- The cycle that a way has come to is being marked. -/
structure RingI (X : List Ins) (C0 C : List Bool) (a0 at_ : Nat) : Prop where
  len : C.length = X.length
  sub : ∀ j, isS C0 j → isS C j
  new : ∀ j, isS C j → isS C0 j ∨ On X a0 j
  closed : ∀ j, isS C j → isS C0 j ∨ ∃ a, jmp X j = some a ∧ (isS C a ∨ a = at_)
  start : at_ = a0 ∨ isS C a0
  on : On X a0 at_
theorem RingI.begin (h : C0.length = X.length) (a0 : Nat) : RingI X C0 C0 a0 a0 := ⟨h, fun _ h => h, fun _ h => .inl h, fun _ h => .inl h, .inl rfl, On.refl _ _⟩
theorem RingI.step {a0 : Nat} (r : RingI X C0 C a0 at_) {a : Nat} (hl : at_ < X.length) (hj : jmp X at_ = some a) : RingI X C0 (C.set at_ true) a0 a := by
  have hm := fun j => isS_set (seen := C) (k := at_) (i := j) (by rw [r.len]; exact hl)
  refine ⟨by rw [List.length_set]; exact r.len, fun j h => (hm j).2 (.inr (r.sub j h)), fun j h => ?_, fun j h => ?_, ?_, r.on.trans (.step hj)⟩
  · rcases (hm j).1 h with rfl | h
    · exact .inr r.on
    · exact r.new j h
  · rcases (hm j).1 h with rfl | h
    · exact .inr ⟨a, hj, .inr rfl⟩
    · rcases r.closed j h with h | ⟨b, hb, h2⟩
      · exact .inl h
      · exact .inr ⟨b, hb, .inl ((hm b).2 (h2.elim .inr .inl))⟩
  · exact .inr ((hm a0).2 (r.start.elim (fun e => .inl e.symm) .inr))
theorem WayI.ring (m : MarkI X i S0 C0) (w : WayI X i S0 S at_) (he : S[at_]? = some (i + 1)) {b : Nat} (r : RingI X C0 C at_ b) (hb : isS C b) : MarkI X (i + 1) S C := by
  have hcyc : Cyc X at_ := by
    obtain ⟨k, hk⟩ := w.lead at_ he
    exact ⟨k, hk⟩
  have hmet : met S at_ := ⟨i + 1, he, Nat.succ_ne_zero _⟩
  have hnold : ∀ j, On X at_ j → ¬ met S0 j := fun j ho hj => by
    obtain ⟨hc, hback⟩ := hcyc.on ho
    have h4 := m.old_closed hj hc hback
    have := w.old at_ h4
    rw [he] at this
    exact m.fresh this.symm
  have hn0 : ∀ j, On X at_ j → ¬ isS C0 j := fun j ho hj => hnold j ho ((m.cyc j).1 hj).1
  have h0 : isS C at_ := by
    rcases r.start with e | h
    · rw [← e]; exact hb
    · exact h
  have hall : ∀ d j, jit X d at_ = some j → isS C j ∧ met S j := by
    intro d
    induction d with
    | zero => intro j hj; injection hj with hj; subst hj; exact ⟨h0, hmet⟩
    | succ d ih =>
      intro j hj
      rw [jit_add] at hj
      cases hd : jit X d at_ with
      | none => rw [hd] at hj; cases hj
      | some u =>
        rw [hd] at hj
        have hju : jmp X u = some j := by rw [← jit_one]; exact hj
        obtain ⟨h1, h2⟩ := ih u hd
        have hu : On X at_ u := ⟨d, hd⟩
        constructor
        · rcases r.closed u h1 with h3 | ⟨a, ha, h3⟩
          · exact absurd h3 (hn0 u hu)
          · rw [hju] at ha
            injection ha with ha
            subst ha
            rcases h3 with h3 | h3
            · exact h3
            · rw [h3]; exact hb
        · rcases w.met_cases h2 with h3 | h3
          · exact absurd h3 (hnold u hu)
          · obtain ⟨a, ha, h4⟩ := w.newj u h3
            rw [hju] at ha
            injection ha with ha
            subst ha
            rcases h4 with h4 | h4
            · exact h4
            · rw [h4]; exact hmet
  refine w.next m (.inr hmet) r.len fun j => ⟨fun h => ?_, fun ⟨h1, h2⟩ => ?_⟩
  · rcases r.new j h with h3 | h3
    · have := (m.cyc j).1 h3
      exact ⟨w.met_old this.1, this.2⟩
    · obtain ⟨d, hd⟩ := h3
      exact ⟨(hall d j hd).2, (hcyc.on ⟨d, hd⟩).1⟩
  · rcases w.met_cases h1 with h3 | h3
    · exact r.sub j ((m.cyc j).2 ⟨h3, h2⟩)
    · obtain ⟨k, hk⟩ := w.lead j h3
      obtain ⟨_, d, hd⟩ := h2.on ⟨k + 1, hk⟩
      exact (hall d j hd).1
noncomputable def cycL (X : List Ins) : List Bool := (List.range X.length).map (cycB X)
theorem MarkI.all (m : MarkI X X.length S C) : C = cycL X := by
  refine List.ext_getElem (by rw [m.lenC]; simp [cycL]) fun j h1 h2 => ?_
  simp only [cycL, List.getElem_map, List.getElem_range]
  rw [Bool.eq_iff_iff, cycB_iff]
  have hs : isS C j ↔ C[j] = true := by unfold isS; rw [List.getElem?_eq_getElem h1]; simp
  rw [← hs, m.cyc]
  refine ⟨And.right, fun h => ⟨?_, h⟩⟩
  rcases m.done j (by rw [← m.lenC]; exact h1) with h3 | h3
  · exact absurd h3 (fun e => h.none e)
  · exact h3
end
theorem countZ_set : ∀ {S : List Nat} {k v : Nat}, S[k]? = some 0 → v ≠ 0 → (S.set k v).count 0 + 1 = S.count 0
  | [], k, v, h, _ => by simp at h
  | b :: t, 0, v, h, hv => by
    simp at h
    subst h
    simp [hv]
  | b :: t, k + 1, v, h, hv => by
    have := countZ_set (k := k) (S := t) (v := v) (by simpa using h) hv
    rw [List.set_cons_succ, List.count_cons, List.count_cons]
    omega
end Go.Proofs.YtpogngdddendiaaDoor
