/- Instructions left out; a code passed once, and until nothing changes; with no program in sight. No condition. -/
import Derived.Test.YtpogngdddendiaaDoorGP
import Derived.Test.YtpogngdddendiaaDoorCodL
set_option linter.unusedVariables false
set_option linter.unusedSimpArgs false
namespace Go.Proofs.YtpogngdddendiaaDoor

/-- How many of the first j are kept. -/
def cntK (g : Nat → Bool) : Nat → Nat
  | 0 => 0
  | j + 1 => cntK g j + if g j then 0 else 1
/-- Those of the first k that are kept. -/
def keptK (X : List Ins) (g : Nat → Bool) : Nat → List Ins
  | 0 => []
  | k + 1 => keptK X g k ++ (if g k then [] else match X[k]? with | some x => [x] | none => [])
def remap (f : Nat → Nat) (x : Ins) : Ins := { x with a := if placeA x.op = true then (f x.a.toNat : Int) else x.a, b := if placeB x.op = true then (f x.b.toNat : Int) else x.b }
def leaveX (X : List Ins) (g : Nat → Bool) : List Ins := (keptK X g X.length).map (remap (cntK g))
theorem cntK_le (g : Nat → Bool) : ∀ j, cntK g j ≤ j
  | 0 => Nat.le_refl _
  | j + 1 => by have := cntK_le g j; rw [cntK]; split <;> omega
theorem cntK_mono (g : Nat → Bool) (i : Nat) : ∀ d, cntK g i ≤ cntK g (i + d)
  | 0 => Nat.le_refl _
  | d + 1 => by have := cntK_mono g i d; rw [show i + (d + 1) = (i + d) + 1 by omega, cntK]; omega
theorem cntK_le_of {g : Nat → Bool} {i j : Nat} (h : i ≤ j) : cntK g i ≤ cntK g j := by
  obtain ⟨d, rfl⟩ := Nat.exists_eq_add_of_le h
  exact cntK_mono g i d
theorem keptK_length (X : List Ins) (g : Nat → Bool) : ∀ k, k ≤ X.length → (keptK X g k).length = cntK g k
  | 0, _ => rfl
  | k + 1, h => by
    rw [keptK, cntK, List.length_append, keptK_length X g k (by omega), List.getElem?_eq_getElem (show k < X.length by omega)]
    split <;> rfl
theorem leaveX_length (X : List Ins) (g : Nat → Bool) : (leaveX X g).length = cntK g X.length := by
  rw [leaveX, List.length_map, keptK_length _ _ _ (Nat.le_refl _)]
theorem keptK_mem {X : List Ins} {g : Nat → Bool} {x : Ins} : ∀ {k}, x ∈ keptK X g k → ∃ i, i < k ∧ X[i]? = some x ∧ g i = false
  | 0, h => by cases h
  | k + 1, h => by
    rw [keptK, List.mem_append] at h
    rcases h with h | h
    · obtain ⟨i, h1, h2⟩ := keptK_mem h
      exact ⟨i, by omega, h2⟩
    · cases hg : g k with
      | true => rw [hg] at h; cases h
      | false =>
        rw [hg] at h
        cases hx : X[k]? with
        | none => simp [hx] at h
        | some y =>
          simp [hx] at h
          subst h
          exact ⟨k, Nat.lt_succ_self _, hx, hg⟩
/-- What is kept stands where so many kept ones are ahead of it. -/
theorem keptK_get (X : List Ins) (g : Nat → Bool) : ∀ {k i : Nat} {x : Ins}, i < k → k ≤ X.length → X[i]? = some x → g i = false → (keptK X g k)[cntK g i]? = some x
  | k + 1, i, x, hi, hk, hx, hg => by
    rw [keptK]
    have hl := keptK_length X g k (by omega)
    by_cases e : i = k
    · subst e
      rw [hg, List.getElem?_append_right (by omega), hl, Nat.sub_self, hx]
      rfl
    · have h1 := keptK_get X g (show i < k by omega) (by omega) hx hg
      rw [List.getElem?_append_left (List.getElem?_eq_some_iff.1 h1).1]
      exact h1
/-- And nothing else stands there. -/
theorem keptK_at (X : List Ins) (g : Nat → Bool) : ∀ {k p : Nat}, k ≤ X.length → p < cntK g k → ∃ i x, i < k ∧ X[i]? = some x ∧ g i = false ∧ cntK g i = p ∧ (keptK X g k)[p]? = some x
  | 0, p, _, h => absurd h (Nat.not_lt_zero _)
  | k + 1, p, hk, h => by
    by_cases hp : p < cntK g k
    · obtain ⟨i, x, h1, h2, h3, h4, h5⟩ := keptK_at X g (show k ≤ X.length by omega) hp
      exact ⟨i, x, by omega, h2, h3, h4, by rw [← h4]; exact keptK_get X g (by omega) hk h2 h3⟩
    · rw [cntK] at h
      cases hg : g k with
      | true => rw [hg] at h; simp at h; omega
      | false =>
        rw [hg] at h
        simp at h
        have hx := List.getElem?_eq_getElem (show k < X.length by omega)
        have : cntK g k = p := by omega
        exact ⟨k, _, Nat.lt_succ_self _, hx, hg, this, by rw [← this]; exact keptK_get X g (Nat.lt_succ_self _) hk hx hg⟩
theorem leaveX_get (X : List Ins) (g : Nat → Bool) {i : Nat} {x : Ins} (hx : X[i]? = some x) (hg : g i = false) : (leaveX X g)[cntK g i]? = some (remap (cntK g) x) := by
  rw [leaveX, List.getElem?_map, keptK_get X g (List.getElem?_eq_some_iff.1 hx).1 (Nat.le_refl _) hx hg]
  rfl
theorem cntK_all {g : Nat → Bool} : ∀ {n : Nat}, cntK g n = n → ∀ i, i < n → g i = false
  | n + 1, h, i, hi => by
    have h1 := cntK_le g n
    rw [cntK] at h
    cases hg : g n with
    | true => rw [hg] at h; simp at h; omega
    | false =>
      rw [hg] at h
      simp at h
      by_cases e : i = n
      · rw [e, hg]
      · exact cntK_all h i (by omega)
theorem cntK_id {g : Nat → Bool} : ∀ {n : Nat}, (∀ i, i < n → g i = false) → ∀ j, j ≤ n → cntK g j = j
  | n, h, 0, _ => rfl
  | n, h, j + 1, hj => by rw [cntK, cntK_id h j (by omega), h j (by omega)]; rfl
theorem remap_id {f : Nat → Nat} {n : Nat} {x : Ins} (ht : ∀ j, j < n → f j = j) (ha : placeA x.op = true → 0 ≤ x.a ∧ x.a < n) (hb : placeB x.op = true → 0 ≤ x.b ∧ x.b < n) : remap f x = x := by
  have h1 : (if placeA x.op = true then (f x.a.toNat : Int) else x.a) = x.a := by
    by_cases h : placeA x.op = true
    · rw [if_pos h, ht _ (by have := ha h; omega)]; have := ha h; omega
    · rw [if_neg h]
  have h2 : (if placeB x.op = true then (f x.b.toNat : Int) else x.b) = x.b := by
    by_cases h : placeB x.op = true
    · rw [if_pos h, ht _ (by have := hb h; omega)]; have := hb h; omega
    · rw [if_neg h]
  unfold remap
  rw [h1, h2]
/-- Where nothing is left out, nothing changes. -/
theorem leaveX_none {X : List Ins} {g : Nat → Bool} (hp : PR X) (h : ∀ i, i < X.length → g i = false) : leaveX X g = X := by
  have hl : (leaveX X g).length = X.length := by rw [leaveX_length]; exact cntK_id h _ (Nat.le_refl _)
  refine List.ext_getElem? fun i => ?_
  by_cases hi : i < X.length
  · have hx := List.getElem?_eq_getElem hi
    have := leaveX_get X g hx (h i hi)
    rw [cntK_id h i (by omega)] at this
    rw [this, hx]
    obtain ⟨h1, h2⟩ := hp _ (List.mem_of_getElem? hx)
    rw [remap_id (n := X.length) (fun j hj => cntK_id h j (by omega)) h1 h2]
  · rw [List.getElem?_eq_none (by omega), List.getElem?_eq_none (by omega)]

/-- A code that may be: its places are in it; it is not empty; its last ends. -/
structure okC (X : List Ins) : Prop where
  pos : 0 < X.length
  most : X.length ≤ 9000
  ok : ∀ x ∈ X, okI (X.length - 1) x = true
  last : ∃ x, X[X.length - 1]? = some x ∧ (x.op = 41 ∨ x.op = 40 ∨ x.op = 18)
theorem okI_pr {n : Nat} {x : Ins} (h : okI (n - 1) x = true) (hn : 0 < n) : (placeA x.op = true → 0 ≤ x.a ∧ x.a < n) ∧ (placeB x.op = true → 0 ≤ x.b ∧ x.b < n) := by
  unfold okI at h
  simp only [Bool.and_eq_true, Bool.or_eq_true, Bool.not_eq_true', decide_eq_true_eq] at h
  obtain ⟨⟨⟨⟨⟨h1, h2⟩, h3⟩, h4⟩, h5⟩, h6⟩ := h
  constructor
  · intro hp
    rcases h3 with h3 | h3
    · rw [hp] at h3; cases h3
    · omega
  · intro hp
    rcases h4 with h4 | h4
    · rw [hp] at h4; cases h4
    · omega
theorem okC.pr {X : List Ins} (h : okC X) : PR X := fun x hx => okI_pr (h.ok x hx) h.pos
theorem okI_turn {n m : Nat} {x y : Ins} (h : okI n x = true) (ho : y.op = x.op) (hs : y.s = x.s) (ha : if placeA x.op = true then 0 ≤ y.a ∧ y.a ≤ m else y.a = x.a) (hb : if placeB x.op = true then 0 ≤ y.b ∧ y.b ≤ m else y.b = x.b) : okI m y = true := by
  unfold okI at *
  rw [ho, hs]
  simp only [Bool.and_eq_true, Bool.or_eq_true, Bool.not_eq_true', decide_eq_true_eq] at *
  obtain ⟨⟨⟨⟨⟨h1, h2⟩, h3⟩, h4⟩, h5⟩, h6⟩ := h
  refine ⟨⟨⟨⟨⟨h1, h2⟩, ?_⟩, ?_⟩, ?_⟩, h6⟩
  · cases hp : placeA x.op with
    | false => exact .inl rfl
    | true => rw [hp] at ha; exact .inr ha
  · cases hp : placeB x.op with
    | false => exact .inl rfl
    | true => rw [hp] at hb; exact .inr hb
  · rcases h5 with h5 | h5
    · exact .inl h5
    · right
      cases hp : placeA x.op with
      | true => rw [hp] at ha; exact ha.1
      | false => rw [hp] at ha; rw [if_neg (by simp)] at ha; rw [ha]; exact h5
theorem str_ok {X : List Ins} (h : okC X) : okC (straightX X) := by
  have hl : (straightX X).length = X.length := strK_length X _
  have hr := h.pr.jr
  refine ⟨by rw [hl]; exact h.pos, by rw [hl]; exact h.most, fun y hy => ?_, ?_⟩
  · rw [hl]
    obtain ⟨i, hi⟩ := List.mem_iff_getElem?.1 hy
    rw [straightX, strK_get?] at hi
    cases hx : X[i]? with
    | none => rw [hx] at hi; cases hi
    | some x =>
      have hil : i < X.length := (List.getElem?_eq_some_iff.1 hx).1
      rw [hx, Option.map_some, if_pos hil] at hi
      injection hi with hi
      subst hi
      have hm := List.mem_of_getElem? hx
      have h0 := h.ok x hm
      obtain ⟨h1, h2⟩ := h.pr x hm
      refine okI_turn h0 rfl rfl ?_ ?_
      · by_cases hp : placeA x.op = true
        · rw [if_pos hp]
          unfold strI
          simp only
          by_cases hc : (placeA x.op && !cycB X i) = true
          · rw [if_pos hc]
            have := endF_lt hr (i := x.a.toNat) (by have := h1 hp; omega)
            omega
          · rw [if_neg hc]; have := h1 hp; omega
        · rw [if_neg hp]
          unfold strI
          simp only
          rw [if_neg (by simp [hp])]
      · by_cases hp : placeB x.op = true
        · rw [if_pos hp]
          unfold strI
          simp only
          rw [if_pos hp]
          have := endF_lt hr (i := x.b.toNat) (by have := h2 hp; omega)
          omega
        · rw [if_neg hp]
          unfold strI
          simp only
          rw [if_neg hp]
  · obtain ⟨x, hx, he⟩ := h.last
    exact ⟨strI X (X.length - 1) x, by rw [hl, straightX, strK_get?, hx, Option.map_some, if_pos (by have := h.pos; omega)], he⟩
theorem cnt_last {X : List Ins} {g : Nat → Bool} (hp : 0 < X.length) (hg : g (X.length - 1) = false) : cntK g X.length = cntK g (X.length - 1) + 1 := by
  obtain ⟨n, hn⟩ : ∃ n, X.length = n + 1 := ⟨X.length - 1, by omega⟩
  rw [hn] at hg ⊢
  rw [cntK]
  simp only [Nat.add_sub_cancel] at *
  rw [hg]
  rfl
theorem leave_ok {X : List Ins} {g : Nat → Bool} (h : okC X) (hg : g (X.length - 1) = false) : okC (leaveX X g) := by
  have hl := leaveX_length X g
  have hc := cnt_last h.pos hg
  have hcl := cntK_le g X.length
  refine ⟨by omega, by have := h.most; omega, fun y hy => ?_, ?_⟩
  · rw [leaveX, List.mem_map] at hy
    obtain ⟨x, hx, rfl⟩ := hy
    obtain ⟨i, hi, hxi, _⟩ := keptK_mem hx
    have hm := List.mem_of_getElem? hxi
    obtain ⟨h1, h2⟩ := h.pr x hm
    rw [hl]
    refine okI_turn (h.ok x hm) rfl rfl ?_ ?_
    · by_cases hp : placeA x.op = true
      · rw [if_pos hp]
        unfold remap
        simp only
        rw [if_pos hp]
        have := cntK_le_of (g := g) (show x.a.toNat ≤ X.length - 1 by have := h1 hp; omega)
        omega
      · rw [if_neg hp]
        unfold remap
        simp only
        rw [if_neg hp]
    · by_cases hp : placeB x.op = true
      · rw [if_pos hp]
        unfold remap
        simp only
        rw [if_pos hp]
        have := cntK_le_of (g := g) (show x.b.toNat ≤ X.length - 1 by have := h2 hp; omega)
        omega
      · rw [if_neg hp]
        unfold remap
        simp only
        rw [if_neg hp]
  · obtain ⟨x, hx, he⟩ := h.last
    refine ⟨remap (cntK g) x, ?_, he⟩
    rw [hl, hc, Nat.add_sub_cancel]
    exact leaveX_get X g hx hg

def tgN (X : List Ins) (i : Nat) : List Nat := (targL X i).map Int.toNat
open Classical in
noncomputable def reachB (X : List Ins) (i : Nat) : Bool := decide (Rch (tgN X) i)
open Classical in
theorem reachB_iff {X : List Ins} {i : Nat} : reachB X i = true ↔ Rch (tgN X) i := by unfold reachB; exact decide_eq_true_iff
open Classical in
theorem reachB_not {X : List Ins} {i : Nat} : reachB X i = false ↔ ¬ Rch (tgN X) i := by unfold reachB; exact decide_eq_false_iff_not
noncomputable def goneA (X : List Ins) (i : Nat) : Bool := !reachB X i && decide (i < X.length - 1)
noncomputable def goneB (X : List Ins) (i : Nat) : Bool := match X[i]? with | some x => (x.op == 18 && x.a == (i : Int) + 1) && !cycB X i | none => false
noncomputable def midX (X : List Ins) : List Ins := leaveX (straightX X) (goneA (straightX X))
noncomputable def onceX (X : List Ins) : List Ins := leaveX (midX X) (goneB (midX X))
theorem goneA_last (X : List Ins) : goneA X (X.length - 1) = false := by
  unfold goneA
  rw [decide_eq_false (Nat.lt_irrefl _), Bool.and_false]
theorem goneB_last {X : List Ins} (h : okC X) : goneB X (X.length - 1) = false := by
  obtain ⟨x, hx, _⟩ := h.last
  unfold goneB
  rw [hx]
  by_cases h18 : x.op = 18
  · have := ((h.pr x (List.mem_of_getElem? hx)).1 (place18 h18))
    have hp := h.pos
    have : (x.a == ((X.length - 1 : Nat) : Int) + 1) = false := by rw [beq_eq_false_iff_ne]; omega
    simp [this]
  · simp [h18]
theorem mid_ok {X : List Ins} (h : okC X) : okC (midX X) := leave_ok (str_ok h) (goneA_last _)
theorem once_ok {X : List Ins} (h : okC X) : okC (onceX X) := leave_ok (mid_ok h) (goneB_last (mid_ok h))
theorem mid_le (X : List Ins) : (midX X).length ≤ X.length := by
  rw [midX, leaveX_length]
  exact Nat.le_trans (cntK_le _ _) (Nat.le_of_eq (strK_length X _))
theorem once_le (X : List Ins) : (onceX X).length ≤ X.length := by
  rw [onceX, leaveX_length]
  exact Nat.le_trans (cntK_le _ _) (mid_le X)
/-- Where nothing went, it was made straight, no more; and all but the last are reached. -/
theorem once_same {X : List Ins} (h : okC X) (hl : (onceX X).length = X.length) : onceX X = straightX X ∧ ∀ i, i < X.length - 1 → reachB (straightX X) i = true := by
  have hs := str_ok h
  have hsl : (straightX X).length = X.length := strK_length X _
  have h1 : (midX X).length = X.length := Nat.le_antisymm (mid_le X) (by rw [← hl, onceX, leaveX_length]; exact cntK_le _ _)
  have h2 : ∀ i, i < (straightX X).length → goneA (straightX X) i = false := by
    refine cntK_all ?_
    rw [← leaveX_length]
    show (midX X).length = _
    rw [h1, hsl]
  have h3 : midX X = straightX X := leaveX_none hs.pr h2
  have h4 : ∀ i, i < (midX X).length → goneB (midX X) i = false := by
    refine cntK_all ?_
    rw [← leaveX_length]
    show (onceX X).length = _
    rw [h1, hl]
  refine ⟨?_, fun i hi => ?_⟩
  · show leaveX (midX X) _ = _
    rw [leaveX_none (mid_ok h).pr h4, h3]
  · have := h2 i (by omega)
    unfold goneA at this
    rw [hsl, decide_eq_true hi, Bool.and_true] at this
    simpa using this
open Classical in
/-- How much there is left to pass. -/
noncomputable def pmeas (X : List Ins) : Nat := 2 * X.length + if straightX X = X then 0 else 1
theorem pmeas_lt {X : List Ins} (h : okC X) (hne : onceX X ≠ X) : pmeas (onceX X) < pmeas X := by
  have hle := once_le X
  unfold pmeas
  by_cases hl : (onceX X).length = X.length
  · obtain ⟨h1, _⟩ := once_same h hl
    rw [if_pos (by rw [h1]; exact str_str h.pr), if_neg (fun e => hne (by rw [h1, e])), hl]
    omega
  · split <;> split <;> omega
/-- Passed until nothing changes. -/
def PassTo (X Y : List Ins) : Prop := ∃ k, Nat.repeat onceX k X = Y ∧ onceX Y = Y
theorem PassTo.fix {X : List Ins} (h : onceX X = X) : PassTo X X := ⟨0, rfl, h⟩
theorem repeat_swap {α : Type} (f : α → α) : ∀ (k : Nat) (x : α), Nat.repeat f (k + 1) x = Nat.repeat f k (f x)
  | 0, x => rfl
  | k + 1, x => by show f (Nat.repeat f (k + 1) x) = f (Nat.repeat f k (f x)); rw [repeat_swap f k x]
theorem PassTo.go {X Y : List Ins} : PassTo (onceX X) Y → PassTo X Y
  | ⟨k, h1, h2⟩ => ⟨k + 1, by rw [repeat_swap]; exact h1, h2⟩
theorem repeat_fix {α : Type} {f : α → α} {x : α} (h : f x = x) : ∀ k, Nat.repeat f k x = x
  | 0 => rfl
  | k + 1 => by show f (Nat.repeat f k x) = x; rw [repeat_fix h k, h]
theorem PassTo.uniq {X Y Z : List Ins} : PassTo X Y → PassTo X Z → Y = Z := by
  rintro ⟨k, h1, h2⟩ ⟨m, h3, h4⟩
  have key : ∀ (k d : Nat) (Y : List Ins), Nat.repeat onceX k X = Y → onceX Y = Y → Nat.repeat onceX (k + d) X = Y := by
    intro k d Y h1 h2
    induction d with
    | zero => exact h1
    | succ d ih => show onceX (Nat.repeat onceX (k + d) X) = Y; rw [ih, h2]
  rcases Nat.le_total k m with h | h
  · obtain ⟨d, rfl⟩ := Nat.exists_eq_add_of_le h
    rw [← key k d Y h1 h2, h3]
  · obtain ⟨d, rfl⟩ := Nat.exists_eq_add_of_le h
    rw [← key m d Z h3 h4, h1]
theorem PassTo.inv {X Y : List Ins} (P : List Ins → Prop) (hs : ∀ X, P X → P (onceX X)) (hx : P X) : PassTo X Y → P Y := by
  rintro ⟨k, rfl, h⟩
  clear h
  induction k with
  | zero => exact hx
  | succ k ih => exact hs _ ih
theorem PassTo.ok {X Y : List Ins} (h : okC X) (hp : PassTo X Y) : okC Y := hp.inv okC (fun _ h => once_ok h) h
theorem PassTo.le {X Y : List Ins} (hp : PassTo X Y) : Y.length ≤ X.length := hp.inv (fun Z => Z.length ≤ X.length) (fun Z h => Nat.le_trans (once_le Z) h) (Nat.le_refl _)
theorem PassTo.end_ {X Y : List Ins} : PassTo X Y → onceX Y = Y
  | ⟨_, _, h⟩ => h
end Go.Proofs.YtpogngdddendiaaDoor

/- The chapter's two examples of passing a code; with no program in sight. No condition. -/
set_option linter.unusedVariables false
set_option linter.unusedSimpArgs false
namespace Go.Proofs.YtpogngdddendiaaDoor

def ins (op a : Int) : Ins := ⟨op, a, 0, []⟩
theorem no_cyc {X : List Ins} {i : Nat} (h : jmp X i = none) : ¬ Cyc X i := fun hc => hc.none h
theorem no_cyc2 {X : List Ins} {i a : Nat} (h : jmp X i = some a) (ha : ¬ Cyc X a) : ¬ Cyc X i := fun hc => by
  obtain ⟨b, hb, hcb, _⟩ := hc.jmp
  rw [h] at hb
  injection hb with hb
  subst hb
  exact ha hcb
theorem once_halt : onceX [ins 41 0] = [ins 41 0] := by
  have hs : straightX [ins 41 0] = [ins 41 0] := by
    simp [straightX, strK, strI, ins, placeA, placeB]
  have hm : midX [ins 41 0] = [ins 41 0] := by
    rw [midX, hs]
    simp [leaveX, keptK, goneA, remap, ins, placeA, placeB]
  rw [onceX, hm]
  simp [leaveX, keptK, goneB, remap, ins, placeA, placeB]
theorem once_ring : onceX [ins 18 0] = [ins 18 0] := by
  have hc : cycB [ins 18 0] 0 = true := cycB_iff.2 ⟨0, rfl⟩
  have hs : straightX [ins 18 0] = [ins 18 0] := by
    simp only [straightX, strK, strI, List.length_singleton, List.mapIdx_cons, List.mapIdx_nil, Nat.zero_lt_one, if_true, hc]
    rfl
  have hm : midX [ins 18 0] = [ins 18 0] := by
    rw [midX, hs]
    simp [leaveX, keptK, goneA, remap, ins, placeA, placeB, cntK]
  rw [onceX, hm]
  simp [leaveX, keptK, goneB, remap, ins, placeA, placeB, cntK]
theorem once_two : onceX [ins 18 1, ins 18 2, ins 41 0] = [ins 41 0] := by
  have n2 : ¬ Cyc [ins 18 1, ins 18 2, ins 41 0] 2 := no_cyc rfl
  have n1 : ¬ Cyc [ins 18 1, ins 18 2, ins 41 0] 1 := no_cyc2 (a := 2) rfl n2
  have n0 : ¬ Cyc [ins 18 1, ins 18 2, ins 41 0] 0 := no_cyc2 (a := 1) rfl n1
  have e2 : endF [ins 18 1, ins 18 2, ins 41 0] 2 = 2 := endF_eq (.stop (.inl rfl))
  have e1 : endF [ins 18 1, ins 18 2, ins 41 0] 1 = 2 := endF_eq (.go (a := 2) rfl n1 (.stop (.inl rfl)))
  have hs : straightX [ins 18 1, ins 18 2, ins 41 0] = [ins 18 2, ins 18 2, ins 41 0] := by
    have b0 := cycB_not.2 n0
    have b1 := cycB_not.2 n1
    simp only [straightX, strK, strI, List.mapIdx_cons, List.mapIdx_nil, List.length_cons, List.length_nil]
    simp [ins, placeA, placeB] at *
    simp [b0, b1, e1, e2]
  have hr : ∀ i, Rch (tgN [ins 18 2, ins 18 2, ins 41 0]) i → i = 0 ∨ i = 2 := by
    intro i h
    induction h with
    | zero => exact .inl rfl
    | step h hk ih =>
      rcases ih with rfl | rfl
      · have : tgN [ins 18 2, ins 18 2, ins 41 0] 0 = [2] := by
          unfold tgN
          rw [show ((0 : Nat) : Int) = (0 : Nat) from rfl, targL_want _ 0 (by decide)]
          decide
        rw [this, List.mem_singleton] at hk
        exact .inr hk
      · have : tgN [ins 18 2, ins 18 2, ins 41 0] 2 = [] := by
          unfold tgN
          rw [targL_want _ 2 (by decide)]
          decide
        rw [this] at hk
        cases hk
  have r0 : reachB [ins 18 2, ins 18 2, ins 41 0] 0 = true := reachB_iff.2 .zero
  have r1 : reachB [ins 18 2, ins 18 2, ins 41 0] 1 = false := reachB_not.2 fun h => by
    rcases hr 1 h with h | h <;> cases h
  have hm : midX [ins 18 1, ins 18 2, ins 41 0] = [ins 18 1, ins 41 0] := by
    rw [midX, hs]
    have g0 : goneA [ins 18 2, ins 18 2, ins 41 0] 0 = false := by unfold goneA; rw [r0]; rfl
    have g1 : goneA [ins 18 2, ins 18 2, ins 41 0] 1 = true := by unfold goneA; rw [r1]; rfl
    have g2 : goneA [ins 18 2, ins 18 2, ins 41 0] 2 = false := goneA_last [ins 18 2, ins 18 2, ins 41 0]
    generalize goneA [ins 18 2, ins 18 2, ins 41 0] = g at *
    simp [leaveX, keptK, g0, g1, g2, remap, ins, placeA, placeB, cntK]
  rw [onceX, hm]
  have m0 : ¬ Cyc [ins 18 1, ins 41 0] 0 := no_cyc2 (a := 1) rfl (no_cyc rfl)
  have g0 : goneB [ins 18 1, ins 41 0] 0 = true := by
    have b0 := cycB_not.2 m0
    unfold goneB
    show ((18 : Int) == 18 && (1 : Int) == ((0 : Nat) : Int) + 1 && !cycB _ 0) = true
    rw [b0]; rfl
  have g1 : goneB [ins 18 1, ins 41 0] 1 = false := rfl
  generalize goneB [ins 18 1, ins 41 0] = g at *
  simp [leaveX, keptK, g0, g1, remap, ins, placeA, placeB, cntK]
theorem pass_two : PassTo [ins 18 1, ins 18 2, ins 41 0] [ins 41 0] := PassTo.go (by rw [once_two]; exact PassTo.fix once_halt)
theorem pass_ring : PassTo [ins 18 0] [ins 18 0] := PassTo.fix once_ring
end Go.Proofs.YtpogngdddendiaaDoor

/- What a passed code keeps: as many instructions of a kind as can be reached; with no program in sight. No condition. -/
set_option linter.unusedVariables false
set_option linter.unusedSimpArgs false
namespace Go.Proofs.YtpogngdddendiaaDoor

theorem placeA_ne {op : Int} (h : placeA op = true) : op ≠ 41 ∧ op ≠ 40 := by
  unfold placeA at h
  simp at h
  omega
theorem placeB_ne {op : Int} (h : placeB op = true) : op ≠ 41 ∧ op ≠ 40 ∧ op ≠ 18 := by
  unfold placeB at h
  simp at h
  omega
/-- Where an instruction may go on. -/
theorem mem_tgN {X : List Ins} {i k : Nat} : k ∈ tgN X i ↔ ∃ x, X[i]? = some x ∧ x.op ≠ 41 ∧ x.op ≠ 40 ∧ k < X.length ∧ ((placeA x.op = true ∧ x.a = k) ∨ (placeB x.op = true ∧ x.b = k) ∨ (x.op ≠ 18 ∧ k = i + 1)) := by
  by_cases hi : i < X.length
  · have hx := List.getElem?_eq_getElem hi
    unfold tgN
    rw [targL_want X i hi]
    unfold wantL
    rw [List.map_map, List.mem_map]
    constructor
    · rintro ⟨k', hk', rfl⟩
      obtain ⟨h1, h2⟩ := List.mem_filter.1 hk'
      have h1 := List.mem_range.1 h1
      refine ⟨X[i], hx, ?_⟩
      simp only [Function.comp_apply, Int.toNat_natCast]
      unfold wantB at h2
      simp only [Bool.or_eq_true, Bool.and_eq_true, beq_iff_eq, bne_iff_ne] at h2
      rcases h2 with (⟨⟨⟨q1, q2⟩, q3⟩, q4⟩ | ⟨q1, q2⟩) | ⟨q1, q2⟩
      · exact ⟨q4, q3, h1, .inr (.inr ⟨q2, q1⟩)⟩
      · exact ⟨(placeA_ne q1).1, (placeA_ne q1).2, h1, .inl ⟨q1, q2⟩⟩
      · exact ⟨(placeB_ne q1).1, (placeB_ne q1).2.1, h1, .inr (.inl ⟨q1, q2⟩)⟩
    · rintro ⟨x, hx2, h41, h40, hk, h⟩
      rw [hx] at hx2
      injection hx2 with hx2
      subst hx2
      refine ⟨k, List.mem_filter.2 ⟨List.mem_range.2 hk, ?_⟩, by simp⟩
      unfold wantB
      simp only [Bool.or_eq_true, Bool.and_eq_true, beq_iff_eq, bne_iff_ne]
      rcases h with ⟨q1, q2⟩ | ⟨q1, q2⟩ | ⟨q1, q2⟩
      · exact .inl (.inr ⟨q1, q2⟩)
      · exact .inr ⟨q1, q2⟩
      · exact .inl (.inl ⟨⟨⟨q2, q1⟩, h40⟩, h41⟩)
  · unfold tgN
    rw [targL_out X i (.inr (by omega))]
    constructor
    · intro h; cases h
    · rintro ⟨x, hx, _⟩
      rw [List.getElem?_eq_none (by omega)] at hx
      cases hx
theorem rch_lt {X : List Ins} (hp : 0 < X.length) {i : Nat} (h : Rch (tgN X) i) : i < X.length := by
  induction h with
  | zero => exact hp
  | step _ hk _ =>
    obtain ⟨_, _, _, _, h, _⟩ := mem_tgN.1 hk
    exact h
def cntP (P : Nat → Bool) : Nat → Nat
  | 0 => 0
  | n + 1 => cntP P n + if P n then 1 else 0
theorem cntP_congr {P Q : Nat → Bool} : ∀ {n : Nat}, (∀ i, i < n → P i = Q i) → cntP P n = cntP Q n
  | 0, _ => rfl
  | n + 1, h => by rw [cntP, cntP, cntP_congr fun i hi => h i (by omega), h n (by omega)]
theorem cntP_kept {g P Q : Nat → Bool} : ∀ {n : Nat}, (∀ i, i < n → P i = true → g i = false) → (∀ i, i < n → g i = false → Q (cntK g i) = P i) → cntP Q (cntK g n) = cntP P n
  | 0, _, _ => rfl
  | n + 1, h1, h2 => by
    have ih := cntP_kept (n := n) (fun i hi => h1 i (by omega)) (fun i hi => h2 i (by omega))
    rw [cntK, cntP]
    cases hg : g n with
    | true =>
      have : P n = false := by
        cases hP : P n with
        | false => rfl
        | true => rw [h1 n (by omega) hP] at hg; cases hg
      rw [this]
      simpa using ih
    | false =>
      rw [if_neg (by simp), cntP, ih, h2 n (by omega) hg]
/-- What is left out is not reached, or jumps to what stands behind it. -/
structure LvOk (X : List Ins) (g : Nat → Bool) : Prop where
  ok : okC X
  last : g (X.length - 1) = false
  gone : ∀ i x, X[i]? = some x → Rch (tgN X) i → g i = true → x.op = 18 ∧ x.a = (i : Int) + 1
section
variable {X : List Ins} {g : Nat → Bool}
theorem LvOk.lt (h : LvOk X g) {k : Nat} (hk : k < X.length) : cntK g k < (leaveX X g).length := by
  rw [leaveX_length, cnt_last h.ok.pos h.last]
  have := cntK_le_of (g := g) (show k ≤ X.length - 1 by omega)
  omega
theorem cntK_gone {i : Nat} (h : g i = true) : cntK g (i + 1) = cntK g i := by rw [cntK, h]; rfl
theorem cntK_kept {i : Nat} (h : g i = false) : cntK g (i + 1) = cntK g i + 1 := by rw [cntK, h]; rfl
theorem LvOk.to (h : LvOk X g) {i : Nat} (hr : Rch (tgN X) i) : Rch (tgN (leaveX X g)) (cntK g i) := by
  induction hr with
  | zero => exact .zero
  | @step i k hi hk ih =>
    obtain ⟨x, hx, h41, h40, hkl, hc⟩ := mem_tgN.1 hk
    cases hg : g i with
    | true =>
      obtain ⟨g1, g2⟩ := h.gone i x hx hi hg
      have hki : k = i + 1 := by
        rcases hc with ⟨_, q⟩ | ⟨q, _⟩ | ⟨q, _⟩
        · omega
        · exact absurd g1 (placeB_ne q).2.2
        · exact absurd g1 q
      rw [hki, cntK_gone hg]
      exact ih
    | false =>
      refine .step ih (mem_tgN.2 ⟨_, leaveX_get X g hx hg, h41, h40, h.lt hkl, ?_⟩)
      rcases hc with ⟨q1, q2⟩ | ⟨q1, q2⟩ | ⟨q1, q2⟩
      · left
        refine ⟨q1, ?_⟩
        unfold remap
        simp only
        rw [if_pos q1, q2, Int.toNat_natCast]
      · right; left
        refine ⟨q1, ?_⟩
        unfold remap
        simp only
        rw [if_pos q1, q2, Int.toNat_natCast]
      · right; right
        exact ⟨q1, by rw [q2, cntK_kept hg]⟩
theorem LvOk.next (h : LvOk X g) : ∀ (d a : Nat), X.length - a ≤ d → a < X.length → Rch (tgN X) a → ∃ i, i < X.length ∧ g i = false ∧ cntK g i = cntK g a ∧ Rch (tgN X) i
  | 0, a, hd, ha, _ => by omega
  | d + 1, a, hd, ha, hr => by
    cases hg : g a with
    | false => exact ⟨a, ha, hg, rfl, hr⟩
    | true =>
      obtain ⟨x, hx⟩ : ∃ x, X[a]? = some x := ⟨_, List.getElem?_eq_getElem ha⟩
      obtain ⟨g1, g2⟩ := h.gone a x hx hr hg
      have hp := (h.ok.pr x (List.mem_of_getElem? hx)).1 (place18 g1)
      have ha2 : a + 1 < X.length := by omega
      have hr2 : Rch (tgN X) (a + 1) := .step hr (mem_tgN.2 ⟨x, hx, by omega, by omega, ha2, .inl ⟨place18 g1, by omega⟩⟩)
      obtain ⟨i, h1, h2, h3, h4⟩ := LvOk.next h d (a + 1) (by omega) ha2 hr2
      exact ⟨i, h1, h2, by rw [h3, cntK_gone hg], h4⟩
theorem LvOk.from_ (h : LvOk X g) {j : Nat} (hr : Rch (tgN (leaveX X g)) j) : ∃ i, i < X.length ∧ g i = false ∧ cntK g i = j ∧ Rch (tgN X) i := by
  induction hr with
  | zero => exact h.next X.length 0 (by omega) h.ok.pos .zero
  | @step j k hj hk ih =>
    obtain ⟨i, hi, hg, rfl, hri⟩ := ih
    obtain ⟨x, hx⟩ : ∃ x, X[i]? = some x := ⟨_, List.getElem?_eq_getElem hi⟩
    obtain ⟨y, hy, h41, h40, hkl, hc⟩ := mem_tgN.1 hk
    rw [leaveX_get X g hx hg] at hy
    injection hy with hy
    subst hy
    obtain ⟨hpa, hpb⟩ := h.ok.pr x (List.mem_of_getElem? hx)
    have h41' : x.op ≠ 41 := h41
    have h40' : x.op ≠ 40 := h40
    rcases hc with ⟨q1, q2⟩ | ⟨q1, q2⟩ | ⟨q1, q2⟩
    · have q1' : placeA x.op = true := q1
      have hp := hpa q1'
      unfold remap at q2
      simp only at q2
      rw [if_pos q1'] at q2
      obtain ⟨i', a1, a2, a3, a4⟩ := h.next X.length x.a.toNat (by omega) (by omega) (.step hri (mem_tgN.2 ⟨x, hx, h41', h40', by omega, .inl ⟨q1', by omega⟩⟩))
      exact ⟨i', a1, a2, by omega, a4⟩
    · have q1' : placeB x.op = true := q1
      have hp := hpb q1'
      unfold remap at q2
      simp only at q2
      rw [if_pos q1'] at q2
      obtain ⟨i', a1, a2, a3, a4⟩ := h.next X.length x.b.toNat (by omega) (by omega) (.step hri (mem_tgN.2 ⟨x, hx, h41', h40', by omega, .inr (.inl ⟨q1', by omega⟩)⟩))
      exact ⟨i', a1, a2, by omega, a4⟩
    · have q1' : x.op ≠ 18 := q1
      have hi1 : i + 1 < X.length := by
        apply Classical.byContradiction
        intro hn
        have he : i + 1 = X.length := by omega
        have h2 := cntK_kept hg
        rw [he, ← leaveX_length] at h2
        omega
      obtain ⟨i', a1, a2, a3, a4⟩ := h.next X.length (i + 1) (by omega) hi1 (.step hri (mem_tgN.2 ⟨x, hx, h41', h40', hi1, .inr (.inr ⟨q1', rfl⟩)⟩))
      exact ⟨i', a1, a2, by rw [a3, cntK_kept hg, q2], a4⟩
theorem cntK_inj {i j : Nat} (hi : g i = false) (hj : g j = false) (h : cntK g i = cntK g j) : i = j := by
  rcases Nat.lt_trichotomy i j with hlt | he | hlt
  · have h1 := cntK_le_of (g := g) (show i + 1 ≤ j from hlt)
    rw [cntK_kept hi] at h1
    omega
  · exact he
  · have h1 := cntK_le_of (g := g) (show j + 1 ≤ i from hlt)
    rw [cntK_kept hj] at h1
    omega
/-- Is the i-th of this kind? -/
def opAt (X : List Ins) (op : Int) (i : Nat) : Bool := match X[i]? with
  | some x => x.op == op
  | none => false
theorem opAt_of {i : Nat} {x : Ins} (h : X[i]? = some x) (op : Int) : opAt X op i = (x.op == op) := by unfold opAt; rw [h]
/-- How many of this kind can be reached. -/
noncomputable def cntR (X : List Ins) (op : Int) : Nat := cntP (fun i => opAt X op i && reachB X i) X.length
theorem cnt_leave (h : LvOk X g) {op : Int} (ho : op ≠ 18) : cntR (leaveX X g) op = cntR X op := by
  unfold cntR
  rw [leaveX_length]
  refine cntP_kept (fun i hi hP => ?_) (fun i hi hg => ?_)
  · obtain ⟨x, hx⟩ : ∃ x, X[i]? = some x := ⟨_, List.getElem?_eq_getElem hi⟩
    rw [opAt_of hx, Bool.and_eq_true, beq_iff_eq, reachB_iff] at hP
    cases hg : g i with
    | false => rfl
    | true =>
      obtain ⟨g1, _⟩ := h.gone i x hx hP.2 hg
      exact absurd (hP.1.symm.trans g1) ho
  · obtain ⟨x, hx⟩ : ∃ x, X[i]? = some x := ⟨_, List.getElem?_eq_getElem hi⟩
    rw [opAt_of hx, opAt_of (leaveX_get X g hx hg)]
    congr 1
    rw [Bool.eq_iff_iff, reachB_iff, reachB_iff]
    constructor
    · intro hr
      obtain ⟨i', _, h2, h3, h4⟩ := h.from_ hr
      rwa [cntK_inj h2 hg h3] at h4
    · exact h.to
end
section
variable {X : List Ins}
theorem str_get {i : Nat} {x : Ins} (hx : X[i]? = some x) : (straightX X)[i]? = some (strI X i x) := by
  rw [straightX, strK_get?, hx, Option.map_some, if_pos (List.getElem?_eq_some_iff.1 hx).1]
theorem endF_go {i a : Nat} (hp : PR X) (hj : jmp X i = some a) (hc : ¬ Cyc X i) : endF X i = endF X a := by
  obtain ⟨k, hk⟩ := endF_spec hp.jr (hp.jr i a hj)
  exact endF_eq (.go hj hc hk)
theorem rch_hop (hp : PR X) {i : Nat} (hr : Rch (tgN (straightX X)) i) (hi : i < X.length) : Rch (tgN (straightX X)) (endF X i) := by
  obtain ⟨x, hx⟩ : ∃ x, X[i]? = some x := ⟨_, List.getElem?_eq_getElem hi⟩
  cases hj : jmp X i with
  | none => rw [endF_stop (.inl hj)]; exact hr
  | some a =>
    by_cases hc : Cyc X i
    · rw [endF_stop (.inr hc)]; exact hr
    · rw [endF_go hp hj hc]
      have h18 : x.op = 18 := by
        rw [jmp_of hx] at hj
        by_cases h : x.op = 18
        · exact h
        · rw [if_neg h] at hj; cases hj
      have ha : x.a.toNat = a := by
        rw [jmp_of hx, if_pos h18] at hj
        injection hj
      refine .step hr (mem_tgN.2 ⟨_, str_get hx, by rw [strI_op]; omega, by rw [strI_op]; omega, by rw [straightX, strK_length]; exact endF_lt hp.jr (hp.jr i a hj), .inl ⟨by rw [strI_op]; exact place18 h18, ?_⟩⟩)
      unfold strI
      simp only
      rw [place18 h18, cycB_not.2 hc, ha]
      rfl
theorem rch_str (hp : PR X) (h0 : 0 < X.length) {i : Nat} (hr : Rch (tgN X) i) : Rch (tgN (straightX X)) (endF X i) := by
  induction hr with
  | zero => exact rch_hop hp .zero h0
  | @step i k hi hk ih =>
    obtain ⟨x, hx, h41, h40, hkl, hc⟩ := mem_tgN.1 hk
    have hil := (List.getElem?_eq_some_iff.1 hx).1
    have hsl : (straightX X).length = X.length := strK_length X _
    by_cases h18 : x.op = 18
    · have hka : x.a = k := by
        rcases hc with ⟨_, q⟩ | ⟨q, _⟩ | ⟨q, _⟩
        · exact q
        · exact absurd h18 (placeB_ne q).2.2
        · exact absurd h18 q
      have hj : jmp X i = some k := by rw [jmp_of hx, if_pos h18, hka]; rfl
      by_cases hcy : Cyc X i
      · rw [endF_stop (.inr hcy)] at ih
        refine rch_hop hp (.step ih (mem_tgN.2 ⟨_, str_get hx, h41, h40, by rw [hsl]; exact hkl, .inl ⟨place18 h18, ?_⟩⟩)) hkl
        unfold strI
        simp only
        rw [cycB_iff.2 hcy, Bool.not_true, Bool.and_false, if_neg (by simp)]
        exact hka
      · rw [endF_go hp hj hcy] at ih
        exact ih
    · have hj : jmp X i = none := by rw [jmp_of hx, if_neg h18]
      rw [endF_stop (.inl hj)] at ih
      rcases hc with ⟨q1, q2⟩ | ⟨q1, q2⟩ | ⟨_, q2⟩
      · refine .step ih (mem_tgN.2 ⟨_, str_get hx, h41, h40, by rw [hsl]; exact endF_lt hp.jr hkl, .inl ⟨q1, ?_⟩⟩)
        unfold strI
        simp only
        rw [q1, cycB_not.2 (fun h => h.none hj), q2, Int.toNat_natCast]
        rfl
      · refine .step ih (mem_tgN.2 ⟨_, str_get hx, h41, h40, by rw [hsl]; exact endF_lt hp.jr hkl, .inr (.inl ⟨q1, ?_⟩)⟩)
        unfold strI
        simp only
        rw [if_pos q1, q2, Int.toNat_natCast]
      · exact rch_hop hp (.step ih (mem_tgN.2 ⟨_, str_get hx, h41, h40, by rw [hsl]; exact hkl, .inr (.inr ⟨h18, q2⟩)⟩)) hkl
theorem rch_on (hp : PR X) {i j : Nat} (hr : Rch (tgN X) i) : On X i j → Rch (tgN X) j := by
  rintro ⟨d, hd⟩
  induction d generalizing i with
  | zero => injection hd with hd; subst hd; exact hr
  | succ d ih =>
    have hd2 : (jmp X i).bind (jit X d) = some j := hd
    cases hj : jmp X i with
    | none => rw [hj] at hd2; cases hd2
    | some a =>
      rw [hj] at hd2
      cases hx : X[i]? with
      | none => rw [jmp_out hx] at hj; cases hj
      | some x =>
        have h18 : x.op = 18 := by
          rw [jmp_of hx] at hj
          by_cases h : x.op = 18
          · exact h
          · rw [if_neg h] at hj; cases hj
        have ha : x.a = a := by
          have h1 := (hp x (List.mem_of_getElem? hx)).1 (place18 h18)
          rw [jmp_of hx, if_pos h18] at hj
          injection hj with hj
          omega
        exact ih (.step hr (mem_tgN.2 ⟨x, hx, by omega, by omega, hp.jr i a hj, .inl ⟨place18 h18, ha⟩⟩)) hd2
theorem rch_unstr (hp : PR X) {i : Nat} (hr : Rch (tgN (straightX X)) i) : Rch (tgN X) i := by
  induction hr with
  | zero => exact .zero
  | @step i k hi hk ih =>
    obtain ⟨y, hy, h41, h40, hkl, hc⟩ := mem_tgN.1 hk
    have hsl : (straightX X).length = X.length := strK_length X _
    rw [hsl] at hkl
    cases hx : X[i]? with
    | none =>
      rw [straightX, strK_get?, hx] at hy
      cases hy
    | some x =>
      rw [str_get hx] at hy
      injection hy with hy
      subst hy
      obtain ⟨hpa, hpb⟩ := hp x (List.mem_of_getElem? hx)
      have h41' : x.op ≠ 41 := h41
      have h40' : x.op ≠ 40 := h40
      rcases hc with ⟨q1, q2⟩ | ⟨q1, q2⟩ | ⟨q1, q2⟩
      · have q1' : placeA x.op = true := q1
        have h1 := hpa q1'
        have hm : Rch (tgN X) x.a.toNat := .step ih (mem_tgN.2 ⟨x, hx, h41', h40', by omega, .inl ⟨q1', by omega⟩⟩)
        unfold strI at q2
        simp only at q2
        by_cases hcc : (placeA x.op && !cycB X i) = true
        · rw [if_pos hcc] at q2
          obtain ⟨d, he⟩ := endF_spec hp.jr (i := x.a.toNat) (by omega)
          have := rch_on hp hm he.on
          rwa [show endF X x.a.toNat = k by omega] at this
        · rw [if_neg hcc] at q2
          rwa [show x.a.toNat = k by omega] at hm
      · have q1' : placeB x.op = true := q1
        have h1 := hpb q1'
        have hm : Rch (tgN X) x.b.toNat := .step ih (mem_tgN.2 ⟨x, hx, h41', h40', by omega, .inr (.inl ⟨q1', by omega⟩)⟩)
        unfold strI at q2
        simp only at q2
        rw [if_pos q1'] at q2
        obtain ⟨d, he⟩ := endF_spec hp.jr (i := x.b.toNat) (by omega)
        have := rch_on hp hm he.on
        rwa [show endF X x.b.toNat = k by omega] at this
      · exact .step ih (mem_tgN.2 ⟨x, hx, h41', h40', hkl, .inr (.inr ⟨q1, q2⟩)⟩)
theorem cnt_str (hp : PR X) (h0 : 0 < X.length) {op : Int} (ho : op ≠ 18) : cntR (straightX X) op = cntR X op := by
  unfold cntR
  rw [show (straightX X).length = X.length from strK_length X _]
  refine cntP_congr fun i hi => ?_
  obtain ⟨x, hx⟩ : ∃ x, X[i]? = some x := ⟨_, List.getElem?_eq_getElem hi⟩
  rw [opAt_of hx, opAt_of (str_get hx), strI_op]
  by_cases hop : x.op = op
  · congr 1
    have hj : jmp X i = none := by rw [jmp_of hx, if_neg (by rw [hop]; exact ho)]
    rw [Bool.eq_iff_iff, reachB_iff, reachB_iff]
    refine ⟨rch_unstr hp, fun h => ?_⟩
    have := rch_str hp h0 h
    rwa [endF_stop (.inl hj)] at this
  · have : (x.op == op) = false := by simp [hop]
    rw [this, Bool.false_and, Bool.false_and]
theorem cnt_once (h : okC X) {op : Int} (ho : op ≠ 18) : cntR (onceX X) op = cntR X op := by
  have hs := str_ok h
  have h1 : LvOk (straightX X) (goneA (straightX X)) := ⟨hs, goneA_last _, fun i x _ hr hg => by
    unfold goneA at hg
    rw [reachB_iff.2 hr] at hg
    cases hg⟩
  have h2 : LvOk (midX X) (goneB (midX X)) := ⟨mid_ok h, goneB_last (mid_ok h), fun i x hx _ hg => by
    unfold goneB at hg
    rw [hx] at hg
    simp only [Bool.and_eq_true, beq_iff_eq] at hg
    exact hg.1⟩
  show cntR (leaveX (midX X) _) op = _
  rw [cnt_leave h2 ho]
  show cntR (leaveX (straightX X) _) op = _
  rw [cnt_leave h1 ho, cnt_str h.pr h.pos ho]
/-- Its last instruction is a halt. -/
def Last41 (X : List Ins) : Prop := ∃ x, X[X.length - 1]? = some x ∧ x.op = 41
theorem leave_41 {g : Nat → Bool} (h : okC X) (hl : Last41 X) (hg : g (X.length - 1) = false) : Last41 (leaveX X g) := by
  obtain ⟨x, hx, h41⟩ := hl
  refine ⟨remap (cntK g) x, ?_, h41⟩
  rw [leaveX_length, cnt_last h.pos hg, Nat.add_sub_cancel]
  exact leaveX_get X g hx hg
theorem once_41 (h : okC X) (hl : Last41 X) : Last41 (onceX X) := by
  have h1 : Last41 (straightX X) := by
    obtain ⟨x, hx, h41⟩ := hl
    exact ⟨strI X (X.length - 1) x, by rw [show (straightX X).length = X.length from strK_length X _]; exact str_get hx, h41⟩
  exact leave_41 (mid_ok h) (leave_41 (str_ok h) h1 (goneA_last _)) (goneB_last (mid_ok h))
end
theorem pass_keeps {X Y : List Ins} (h : okC X) (hl : Last41 X) (hp : PassTo X Y) {op : Int} (ho : op ≠ 18) (h41 : op ≠ 41) : cntP (opAt Y op) Y.length = cntR X op := by
  have hinv := hp.inv (fun Z => okC Z ∧ Last41 Z ∧ cntR Z op = cntR X op) (fun Z hz => ⟨once_ok hz.1, once_41 hz.1 hz.2.1, by rw [cnt_once hz.1 ho]; exact hz.2.2⟩) ⟨h, hl, rfl⟩
  obtain ⟨hok, ⟨x, hx, hx41⟩, hc⟩ := hinv
  rw [← hc]
  unfold cntR
  refine cntP_congr fun i hi => ?_
  obtain ⟨h1, h2⟩ := once_same hok (by rw [hp.end_])
  have hs : straightX Y = Y := by rw [← h1, hp.end_]
  rw [hs] at h2
  by_cases hil : i < Y.length - 1
  · rw [h2 i hil, Bool.and_true]
  · have he : i = Y.length - 1 := by omega
    subst he
    rw [opAt_of hx, hx41, show ((41 : Int) == op) = false by simp; exact fun e => h41 e.symm]
    rfl
end Go.Proofs.YtpogngdddendiaaDoor
