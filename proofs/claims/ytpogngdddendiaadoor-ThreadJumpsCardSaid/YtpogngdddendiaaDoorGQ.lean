/- Instructions left out; a code passed once, and until nothing changes; with no program in sight. No condition. -/
import Derived.Test.YtpogngdddendiaaDoorGP
import Derived.Test.YtpogngdddendiaaDoorCodL
set_option linter.unusedVariables false
set_option linter.unusedSimpArgs false
namespace Go.Proofs.YtpogngdddendiaaDoor

/-- How many of the first j are kept. -/
def cntK (g : Nat → Bool) : Nat → Nat
  | 0 => 0
  | j + 1 => cntK g j + if g j then 0 else 1
/-- Those of the first k that are kept. -/
def keptK (X : List Ins) (g : Nat → Bool) : Nat → List Ins
  | 0 => []
  | k + 1 => keptK X g k ++ (if g k then [] else match X[k]? with | some x => [x] | none => [])
def remap (f : Nat → Nat) (x : Ins) : Ins := { x with a := if placeA x.op = true then (f x.a.toNat : Int) else x.a, b := if placeB x.op = true then (f x.b.toNat : Int) else x.b }
def leaveX (X : List Ins) (g : Nat → Bool) : List Ins := (keptK X g X.length).map (remap (cntK g))
theorem cntK_le (g : Nat → Bool) : ∀ j, cntK g j ≤ j
  | 0 => Nat.le_refl _
  | j + 1 => by have := cntK_le g j; rw [cntK]; split <;> omega
theorem cntK_mono (g : Nat → Bool) (i : Nat) : ∀ d, cntK g i ≤ cntK g (i + d)
  | 0 => Nat.le_refl _
  | d + 1 => by have := cntK_mono g i d; rw [show i + (d + 1) = (i + d) + 1 by omega, cntK]; omega
theorem cntK_le_of {g : Nat → Bool} {i j : Nat} (h : i ≤ j) : cntK g i ≤ cntK g j := by
  obtain ⟨d, rfl⟩ := Nat.exists_eq_add_of_le h
  exact cntK_mono g i d
theorem keptK_length (X : List Ins) (g : Nat → Bool) : ∀ k, k ≤ X.length → (keptK X g k).length = cntK g k
  | 0, _ => rfl
  | k + 1, h => by
    rw [keptK, cntK, List.length_append, keptK_length X g k (by omega), List.getElem?_eq_getElem (show k < X.length by omega)]
    split <;> rfl
theorem leaveX_length (X : List Ins) (g : Nat → Bool) : (leaveX X g).length = cntK g X.length := by
  rw [leaveX, List.length_map, keptK_length _ _ _ (Nat.le_refl _)]
theorem keptK_mem {X : List Ins} {g : Nat → Bool} {x : Ins} : ∀ {k}, x ∈ keptK X g k → ∃ i, i < k ∧ X[i]? = some x ∧ g i = false
  | 0, h => by cases h
  | k + 1, h => by
    rw [keptK, List.mem_append] at h
    rcases h with h | h
    · obtain ⟨i, h1, h2⟩ := keptK_mem h
      exact ⟨i, by omega, h2⟩
    · cases hg : g k with
      | true => rw [hg] at h; cases h
      | false =>
        rw [hg] at h
        cases hx : X[k]? with
        | none => simp [hx] at h
        | some y =>
          simp [hx] at h
          subst h
          exact ⟨k, Nat.lt_succ_self _, hx, hg⟩
/-- What is kept stands where so many kept ones are ahead of it. -/
theorem keptK_get (X : List Ins) (g : Nat → Bool) : ∀ {k i : Nat} {x : Ins}, i < k → k ≤ X.length → X[i]? = some x → g i = false → (keptK X g k)[cntK g i]? = some x
  | k + 1, i, x, hi, hk, hx, hg => by
    rw [keptK]
    have hl := keptK_length X g k (by omega)
    by_cases e : i = k
    · subst e
      rw [hg, List.getElem?_append_right (by omega), hl, Nat.sub_self, hx]
      rfl
    · have h1 := keptK_get X g (show i < k by omega) (by omega) hx hg
      rw [List.getElem?_append_left (List.getElem?_eq_some_iff.1 h1).1]
      exact h1
/-- And nothing else stands there. -/
theorem keptK_at (X : List Ins) (g : Nat → Bool) : ∀ {k p : Nat}, k ≤ X.length → p < cntK g k → ∃ i x, i < k ∧ X[i]? = some x ∧ g i = false ∧ cntK g i = p ∧ (keptK X g k)[p]? = some x
  | 0, p, _, h => absurd h (Nat.not_lt_zero _)
  | k + 1, p, hk, h => by
    by_cases hp : p < cntK g k
    · obtain ⟨i, x, h1, h2, h3, h4, h5⟩ := keptK_at X g (show k ≤ X.length by omega) hp
      exact ⟨i, x, by omega, h2, h3, h4, by rw [← h4]; exact keptK_get X g (by omega) hk h2 h3⟩
    · rw [cntK] at h
      cases hg : g k with
      | true => rw [hg] at h; simp at h; omega
      | false =>
        rw [hg] at h
        simp at h
        have hx := List.getElem?_eq_getElem (show k < X.length by omega)
        have : cntK g k = p := by omega
        exact ⟨k, _, Nat.lt_succ_self _, hx, hg, this, by rw [← this]; exact keptK_get X g (Nat.lt_succ_self _) hk hx hg⟩
theorem leaveX_get (X : List Ins) (g : Nat → Bool) {i : Nat} {x : Ins} (hx : X[i]? = some x) (hg : g i = false) : (leaveX X g)[cntK g i]? = some (remap (cntK g) x) := by
  rw [leaveX, List.getElem?_map, keptK_get X g (List.getElem?_eq_some_iff.1 hx).1 (Nat.le_refl _) hx hg]
  rfl
theorem cntK_all {g : Nat → Bool} : ∀ {n : Nat}, cntK g n = n → ∀ i, i < n → g i = false
  | n + 1, h, i, hi => by
    have h1 := cntK_le g n
    rw [cntK] at h
    cases hg : g n with
    | true => rw [hg] at h; simp at h; omega
    | false =>
      rw [hg] at h
      simp at h
      by_cases e : i = n
      · rw [e, hg]
      · exact cntK_all h i (by omega)
theorem cntK_id {g : Nat → Bool} : ∀ {n : Nat}, (∀ i, i < n → g i = false) → ∀ j, j ≤ n → cntK g j = j
  | n, h, 0, _ => rfl
  | n, h, j + 1, hj => by rw [cntK, cntK_id h j (by omega), h j (by omega)]; rfl
theorem remap_id {f : Nat → Nat} {n : Nat} {x : Ins} (ht : ∀ j, j < n → f j = j) (ha : placeA x.op = true → 0 ≤ x.a ∧ x.a < n) (hb : placeB x.op = true → 0 ≤ x.b ∧ x.b < n) : remap f x = x := by
  have h1 : (if placeA x.op = true then (f x.a.toNat : Int) else x.a) = x.a := by
    by_cases h : placeA x.op = true
    · rw [if_pos h, ht _ (by have := ha h; omega)]; have := ha h; omega
    · rw [if_neg h]
  have h2 : (if placeB x.op = true then (f x.b.toNat : Int) else x.b) = x.b := by
    by_cases h : placeB x.op = true
    · rw [if_pos h, ht _ (by have := hb h; omega)]; have := hb h; omega
    · rw [if_neg h]
  unfold remap
  rw [h1, h2]
/-- Where nothing is left out, nothing changes. -/
theorem leaveX_none {X : List Ins} {g : Nat → Bool} (hp : PR X) (h : ∀ i, i < X.length → g i = false) : leaveX X g = X := by
  have hl : (leaveX X g).length = X.length := by rw [leaveX_length]; exact cntK_id h _ (Nat.le_refl _)
  refine List.ext_getElem? fun i => ?_
  by_cases hi : i < X.length
  · have hx := List.getElem?_eq_getElem hi
    have := leaveX_get X g hx (h i hi)
    rw [cntK_id h i (by omega)] at this
    rw [this, hx]
    obtain ⟨h1, h2⟩ := hp _ (List.mem_of_getElem? hx)
    rw [remap_id (n := X.length) (fun j hj => cntK_id h j (by omega)) h1 h2]
  · rw [List.getElem?_eq_none (by omega), List.getElem?_eq_none (by omega)]

/-- A code that may be: its places are in it; it is not empty; its last ends. -/
structure okC (X : List Ins) : Prop where
  pos : 0 < X.length
  most : X.length ≤ 9000
  ok : ∀ x ∈ X, okI (X.length - 1) x = true
  last : ∃ x, X[X.length - 1]? = some x ∧ (x.op = 41 ∨ x.op = 40 ∨ x.op = 18)
theorem okI_pr {n : Nat} {x : Ins} (h : okI (n - 1) x = true) (hn : 0 < n) : (placeA x.op = true → 0 ≤ x.a ∧ x.a < n) ∧ (placeB x.op = true → 0 ≤ x.b ∧ x.b < n) := by
  unfold okI at h
  simp only [Bool.and_eq_true, Bool.or_eq_true, Bool.not_eq_true', decide_eq_true_eq] at h
  obtain ⟨⟨⟨⟨⟨h1, h2⟩, h3⟩, h4⟩, h5⟩, h6⟩ := h
  constructor
  · intro hp
    rcases h3 with h3 | h3
    · rw [hp] at h3; cases h3
    · omega
  · intro hp
    rcases h4 with h4 | h4
    · rw [hp] at h4; cases h4
    · omega
theorem okC.pr {X : List Ins} (h : okC X) : PR X := fun x hx => okI_pr (h.ok x hx) h.pos
theorem okI_turn {n m : Nat} {x y : Ins} (h : okI n x = true) (ho : y.op = x.op) (hs : y.s = x.s) (ha : if placeA x.op = true then 0 ≤ y.a ∧ y.a ≤ m else y.a = x.a) (hb : if placeB x.op = true then 0 ≤ y.b ∧ y.b ≤ m else y.b = x.b) : okI m y = true := by
  unfold okI at *
  rw [ho, hs]
  simp only [Bool.and_eq_true, Bool.or_eq_true, Bool.not_eq_true', decide_eq_true_eq] at *
  obtain ⟨⟨⟨⟨⟨h1, h2⟩, h3⟩, h4⟩, h5⟩, h6⟩ := h
  refine ⟨⟨⟨⟨⟨h1, h2⟩, ?_⟩, ?_⟩, ?_⟩, h6⟩
  · cases hp : placeA x.op with
    | false => exact .inl rfl
    | true => rw [hp] at ha; exact .inr ha
  · cases hp : placeB x.op with
    | false => exact .inl rfl
    | true => rw [hp] at hb; exact .inr hb
  · rcases h5 with h5 | h5
    · exact .inl h5
    · right
      cases hp : placeA x.op with
      | true => rw [hp] at ha; exact ha.1
      | false => rw [hp] at ha; rw [if_neg (by simp)] at ha; rw [ha]; exact h5
theorem str_ok {X : List Ins} (h : okC X) : okC (straightX X) := by
  have hl : (straightX X).length = X.length := strK_length X _
  have hr := h.pr.jr
  refine ⟨by rw [hl]; exact h.pos, by rw [hl]; exact h.most, fun y hy => ?_, ?_⟩
  · rw [hl]
    obtain ⟨i, hi⟩ := List.mem_iff_getElem?.1 hy
    rw [straightX, strK_get?] at hi
    cases hx : X[i]? with
    | none => rw [hx] at hi; cases hi
    | some x =>
      have hil : i < X.length := (List.getElem?_eq_some_iff.1 hx).1
      rw [hx, Option.map_some, if_pos hil] at hi
      injection hi with hi
      subst hi
      have hm := List.mem_of_getElem? hx
      have h0 := h.ok x hm
      obtain ⟨h1, h2⟩ := h.pr x hm
      refine okI_turn h0 rfl rfl ?_ ?_
      · by_cases hp : placeA x.op = true
        · rw [if_pos hp]
          unfold strI
          simp only
          by_cases hc : (placeA x.op && !cycB X i) = true
          · rw [if_pos hc]
            have := endF_lt hr (i := x.a.toNat) (by have := h1 hp; omega)
            omega
          · rw [if_neg hc]; have := h1 hp; omega
        · rw [if_neg hp]
          unfold strI
          simp only
          rw [if_neg (by simp [hp])]
      · by_cases hp : placeB x.op = true
        · rw [if_pos hp]
          unfold strI
          simp only
          rw [if_pos hp]
          have := endF_lt hr (i := x.b.toNat) (by have := h2 hp; omega)
          omega
        · rw [if_neg hp]
          unfold strI
          simp only
          rw [if_neg hp]
  · obtain ⟨x, hx, he⟩ := h.last
    exact ⟨strI X (X.length - 1) x, by rw [hl, straightX, strK_get?, hx, Option.map_some, if_pos (by have := h.pos; omega)], he⟩
theorem cnt_last {X : List Ins} {g : Nat → Bool} (hp : 0 < X.length) (hg : g (X.length - 1) = false) : cntK g X.length = cntK g (X.length - 1) + 1 := by
  obtain ⟨n, hn⟩ : ∃ n, X.length = n + 1 := ⟨X.length - 1, by omega⟩
  rw [hn] at hg ⊢
  rw [cntK]
  simp only [Nat.add_sub_cancel] at *
  rw [hg]
  rfl
theorem leave_ok {X : List Ins} {g : Nat → Bool} (h : okC X) (hg : g (X.length - 1) = false) : okC (leaveX X g) := by
  have hl := leaveX_length X g
  have hc := cnt_last h.pos hg
  have hcl := cntK_le g X.length
  refine ⟨by omega, by have := h.most; omega, fun y hy => ?_, ?_⟩
  · rw [leaveX, List.mem_map] at hy
    obtain ⟨x, hx, rfl⟩ := hy
    obtain ⟨i, hi, hxi, _⟩ := keptK_mem hx
    have hm := List.mem_of_getElem? hxi
    obtain ⟨h1, h2⟩ := h.pr x hm
    rw [hl]
    refine okI_turn (h.ok x hm) rfl rfl ?_ ?_
    · by_cases hp : placeA x.op = true
      · rw [if_pos hp]
        unfold remap
        simp only
        rw [if_pos hp]
        have := cntK_le_of (g := g) (show x.a.toNat ≤ X.length - 1 by have := h1 hp; omega)
        omega
      · rw [if_neg hp]
        unfold remap
        simp only
        rw [if_neg hp]
    · by_cases hp : placeB x.op = true
      · rw [if_pos hp]
        unfold remap
        simp only
        rw [if_pos hp]
        have := cntK_le_of (g := g) (show x.b.toNat ≤ X.length - 1 by have := h2 hp; omega)
        omega
      · rw [if_neg hp]
        unfold remap
        simp only
        rw [if_neg hp]
  · obtain ⟨x, hx, he⟩ := h.last
    refine ⟨remap (cntK g) x, ?_, he⟩
    rw [hl, hc, Nat.add_sub_cancel]
    exact leaveX_get X g hx hg

def tgN (X : List Ins) (i : Nat) : List Nat := (targL X i).map Int.toNat
open Classical in
noncomputable def reachB (X : List Ins) (i : Nat) : Bool := decide (Rch (tgN X) i)
open Classical in
theorem reachB_iff {X : List Ins} {i : Nat} : reachB X i = true ↔ Rch (tgN X) i := by unfold reachB; exact decide_eq_true_iff
open Classical in
theorem reachB_not {X : List Ins} {i : Nat} : reachB X i = false ↔ ¬ Rch (tgN X) i := by unfold reachB; exact decide_eq_false_iff_not
noncomputable def goneA (X : List Ins) (i : Nat) : Bool := !reachB X i && decide (i < X.length - 1)
noncomputable def goneB (X : List Ins) (i : Nat) : Bool := match X[i]? with | some x => (x.op == 18 && x.a == (i : Int) + 1) && !cycB X i | none => false
noncomputable def midX (X : List Ins) : List Ins := leaveX (straightX X) (goneA (straightX X))
noncomputable def onceX (X : List Ins) : List Ins := leaveX (midX X) (goneB (midX X))
theorem goneA_last (X : List Ins) : goneA X (X.length - 1) = false := by
  unfold goneA
  rw [decide_eq_false (Nat.lt_irrefl _), Bool.and_false]
theorem goneB_last {X : List Ins} (h : okC X) : goneB X (X.length - 1) = false := by
  obtain ⟨x, hx, _⟩ := h.last
  unfold goneB
  rw [hx]
  by_cases h18 : x.op = 18
  · have := ((h.pr x (List.mem_of_getElem? hx)).1 (place18 h18))
    have hp := h.pos
    have : (x.a == ((X.length - 1 : Nat) : Int) + 1) = false := by rw [beq_eq_false_iff_ne]; omega
    simp [this]
  · simp [h18]
theorem mid_ok {X : List Ins} (h : okC X) : okC (midX X) := leave_ok (str_ok h) (goneA_last _)
theorem once_ok {X : List Ins} (h : okC X) : okC (onceX X) := leave_ok (mid_ok h) (goneB_last (mid_ok h))
theorem mid_le (X : List Ins) : (midX X).length ≤ X.length := by
  rw [midX, leaveX_length]
  exact Nat.le_trans (cntK_le _ _) (Nat.le_of_eq (strK_length X _))
theorem once_le (X : List Ins) : (onceX X).length ≤ X.length := by
  rw [onceX, leaveX_length]
  exact Nat.le_trans (cntK_le _ _) (mid_le X)
/-- Where nothing went, it was made straight, no more; and all but the last are reached. -/
theorem once_same {X : List Ins} (h : okC X) (hl : (onceX X).length = X.length) : onceX X = straightX X ∧ ∀ i, i < X.length - 1 → reachB (straightX X) i = true := by
  have hs := str_ok h
  have hsl : (straightX X).length = X.length := strK_length X _
  have h1 : (midX X).length = X.length := Nat.le_antisymm (mid_le X) (by rw [← hl, onceX, leaveX_length]; exact cntK_le _ _)
  have h2 : ∀ i, i < (straightX X).length → goneA (straightX X) i = false := by
    refine cntK_all ?_
    rw [← leaveX_length]
    show (midX X).length = _
    rw [h1, hsl]
  have h3 : midX X = straightX X := leaveX_none hs.pr h2
  have h4 : ∀ i, i < (midX X).length → goneB (midX X) i = false := by
    refine cntK_all ?_
    rw [← leaveX_length]
    show (onceX X).length = _
    rw [h1, hl]
  refine ⟨?_, fun i hi => ?_⟩
  · show leaveX (midX X) _ = _
    rw [leaveX_none (mid_ok h).pr h4, h3]
  · have := h2 i (by omega)
    unfold goneA at this
    rw [hsl, decide_eq_true hi, Bool.and_true] at this
    simpa using this
open Classical in
/-- How much there is left to pass. -/
noncomputable def pmeas (X : List Ins) : Nat := 2 * X.length + if straightX X = X then 0 else 1
theorem pmeas_lt {X : List Ins} (h : okC X) (hne : onceX X ≠ X) : pmeas (onceX X) < pmeas X := by
  have hle := once_le X
  unfold pmeas
  by_cases hl : (onceX X).length = X.length
  · obtain ⟨h1, _⟩ := once_same h hl
    rw [if_pos (by rw [h1]; exact str_str h.pr), if_neg (fun e => hne (by rw [h1, e])), hl]
    omega
  · split <;> split <;> omega
/-- Passed until nothing changes. -/
def PassTo (X Y : List Ins) : Prop := ∃ k, Nat.repeat onceX k X = Y ∧ onceX Y = Y
theorem PassTo.fix {X : List Ins} (h : onceX X = X) : PassTo X X := ⟨0, rfl, h⟩
theorem repeat_swap {α : Type} (f : α → α) : ∀ (k : Nat) (x : α), Nat.repeat f (k + 1) x = Nat.repeat f k (f x)
  | 0, x => rfl
  | k + 1, x => by show f (Nat.repeat f (k + 1) x) = f (Nat.repeat f k (f x)); rw [repeat_swap f k x]
theorem PassTo.go {X Y : List Ins} : PassTo (onceX X) Y → PassTo X Y
  | ⟨k, h1, h2⟩ => ⟨k + 1, by rw [repeat_swap]; exact h1, h2⟩
theorem repeat_fix {α : Type} {f : α → α} {x : α} (h : f x = x) : ∀ k, Nat.repeat f k x = x
  | 0 => rfl
  | k + 1 => by show f (Nat.repeat f k x) = x; rw [repeat_fix h k, h]
theorem PassTo.uniq {X Y Z : List Ins} : PassTo X Y → PassTo X Z → Y = Z := by
  rintro ⟨k, h1, h2⟩ ⟨m, h3, h4⟩
  have key : ∀ (k d : Nat) (Y : List Ins), Nat.repeat onceX k X = Y → onceX Y = Y → Nat.repeat onceX (k + d) X = Y := by
    intro k d Y h1 h2
    induction d with
    | zero => exact h1
    | succ d ih => show onceX (Nat.repeat onceX (k + d) X) = Y; rw [ih, h2]
  rcases Nat.le_total k m with h | h
  · obtain ⟨d, rfl⟩ := Nat.exists_eq_add_of_le h
    rw [← key k d Y h1 h2, h3]
  · obtain ⟨d, rfl⟩ := Nat.exists_eq_add_of_le h
    rw [← key m d Z h3 h4, h1]
theorem PassTo.inv {X Y : List Ins} (P : List Ins → Prop) (hs : ∀ X, P X → P (onceX X)) (hx : P X) : PassTo X Y → P Y := by
  rintro ⟨k, rfl, h⟩
  clear h
  induction k with
  | zero => exact hx
  | succ k ih => exact hs _ ih
theorem PassTo.ok {X Y : List Ins} (h : okC X) (hp : PassTo X Y) : okC Y := hp.inv okC (fun _ h => once_ok h) h
theorem PassTo.le {X Y : List Ins} (hp : PassTo X Y) : Y.length ≤ X.length := hp.inv (fun Z => Z.length ≤ X.length) (fun Z h => Nat.le_trans (once_le Z) h) (Nat.le_refl _)
theorem PassTo.end_ {X Y : List Ins} : PassTo X Y → onceX Y = Y
  | ⟨_, _, h⟩ => h
end Go.Proofs.YtpogngdddendiaaDoor

/- The chapter's two examples of passing a code; with no program in sight. No condition. -/
set_option linter.unusedVariables false
set_option linter.unusedSimpArgs false
namespace Go.Proofs.YtpogngdddendiaaDoor

def ins (op a : Int) : Ins := ⟨op, a, 0, []⟩
theorem no_cyc {X : List Ins} {i : Nat} (h : jmp X i = none) : ¬ Cyc X i := fun hc => hc.none h
theorem no_cyc2 {X : List Ins} {i a : Nat} (h : jmp X i = some a) (ha : ¬ Cyc X a) : ¬ Cyc X i := fun hc => by
  obtain ⟨b, hb, hcb, _⟩ := hc.jmp
  rw [h] at hb
  injection hb with hb
  subst hb
  exact ha hcb
theorem once_halt : onceX [ins 41 0] = [ins 41 0] := by
  have hs : straightX [ins 41 0] = [ins 41 0] := by
    simp [straightX, strK, strI, ins, placeA, placeB]
  have hm : midX [ins 41 0] = [ins 41 0] := by
    rw [midX, hs]
    simp [leaveX, keptK, goneA, remap, ins, placeA, placeB]
  rw [onceX, hm]
  simp [leaveX, keptK, goneB, remap, ins, placeA, placeB]
theorem once_ring : onceX [ins 18 0] = [ins 18 0] := by
  have hc : cycB [ins 18 0] 0 = true := cycB_iff.2 ⟨0, rfl⟩
  have hs : straightX [ins 18 0] = [ins 18 0] := by
    simp only [straightX, strK, strI, List.length_singleton, List.mapIdx_cons, List.mapIdx_nil, Nat.zero_lt_one, if_true, hc]
    rfl
  have hm : midX [ins 18 0] = [ins 18 0] := by
    rw [midX, hs]
    simp [leaveX, keptK, goneA, remap, ins, placeA, placeB, cntK]
  rw [onceX, hm]
  simp [leaveX, keptK, goneB, remap, ins, placeA, placeB, cntK]
theorem once_two : onceX [ins 18 1, ins 18 2, ins 41 0] = [ins 41 0] := by
  have n2 : ¬ Cyc [ins 18 1, ins 18 2, ins 41 0] 2 := no_cyc rfl
  have n1 : ¬ Cyc [ins 18 1, ins 18 2, ins 41 0] 1 := no_cyc2 (a := 2) rfl n2
  have n0 : ¬ Cyc [ins 18 1, ins 18 2, ins 41 0] 0 := no_cyc2 (a := 1) rfl n1
  have e2 : endF [ins 18 1, ins 18 2, ins 41 0] 2 = 2 := endF_eq (.stop (.inl rfl))
  have e1 : endF [ins 18 1, ins 18 2, ins 41 0] 1 = 2 := endF_eq (.go (a := 2) rfl n1 (.stop (.inl rfl)))
  have hs : straightX [ins 18 1, ins 18 2, ins 41 0] = [ins 18 2, ins 18 2, ins 41 0] := by
    have b0 := cycB_not.2 n0
    have b1 := cycB_not.2 n1
    simp only [straightX, strK, strI, List.mapIdx_cons, List.mapIdx_nil, List.length_cons, List.length_nil]
    simp [ins, placeA, placeB] at *
    simp [b0, b1, e1, e2]
  have hr : ∀ i, Rch (tgN [ins 18 2, ins 18 2, ins 41 0]) i → i = 0 ∨ i = 2 := by
    intro i h
    induction h with
    | zero => exact .inl rfl
    | step h hk ih =>
      rcases ih with rfl | rfl
      · have : tgN [ins 18 2, ins 18 2, ins 41 0] 0 = [2] := by
          unfold tgN
          rw [show ((0 : Nat) : Int) = (0 : Nat) from rfl, targL_want _ 0 (by decide)]
          decide
        rw [this, List.mem_singleton] at hk
        exact .inr hk
      · have : tgN [ins 18 2, ins 18 2, ins 41 0] 2 = [] := by
          unfold tgN
          rw [targL_want _ 2 (by decide)]
          decide
        rw [this] at hk
        cases hk
  have r0 : reachB [ins 18 2, ins 18 2, ins 41 0] 0 = true := reachB_iff.2 .zero
  have r1 : reachB [ins 18 2, ins 18 2, ins 41 0] 1 = false := reachB_not.2 fun h => by
    rcases hr 1 h with h | h <;> cases h
  have hm : midX [ins 18 1, ins 18 2, ins 41 0] = [ins 18 1, ins 41 0] := by
    rw [midX, hs]
    have g0 : goneA [ins 18 2, ins 18 2, ins 41 0] 0 = false := by unfold goneA; rw [r0]; rfl
    have g1 : goneA [ins 18 2, ins 18 2, ins 41 0] 1 = true := by unfold goneA; rw [r1]; rfl
    have g2 : goneA [ins 18 2, ins 18 2, ins 41 0] 2 = false := goneA_last [ins 18 2, ins 18 2, ins 41 0]
    generalize goneA [ins 18 2, ins 18 2, ins 41 0] = g at *
    simp [leaveX, keptK, g0, g1, g2, remap, ins, placeA, placeB, cntK]
  rw [onceX, hm]
  have m0 : ¬ Cyc [ins 18 1, ins 41 0] 0 := no_cyc2 (a := 1) rfl (no_cyc rfl)
  have g0 : goneB [ins 18 1, ins 41 0] 0 = true := by
    have b0 := cycB_not.2 m0
    unfold goneB
    show ((18 : Int) == 18 && (1 : Int) == ((0 : Nat) : Int) + 1 && !cycB _ 0) = true
    rw [b0]; rfl
  have g1 : goneB [ins 18 1, ins 41 0] 1 = false := rfl
  generalize goneB [ins 18 1, ins 41 0] = g at *
  simp [leaveX, keptK, g0, g1, remap, ins, placeA, placeB, cntK]
theorem pass_two : PassTo [ins 18 1, ins 18 2, ins 41 0] [ins 41 0] := PassTo.go (by rw [once_two]; exact PassTo.fix once_halt)
theorem pass_ring : PassTo [ins 18 0] [ins 18 0] := PassTo.fix once_ring
end Go.Proofs.YtpogngdddendiaaDoor
