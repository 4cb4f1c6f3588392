/- Plain laws on an instruction's targets and on the names. -/
import Derived.Test.YtpogngdddendiaaDoorGI
import Derived.Test.YtpogngdddendiaaDoorCodeO
set_option linter.unusedVariables false
set_option linter.unusedSimpArgs false
namespace Go.Proofs.YtpogngdddendiaaDoor

theorem compactZ_spec (d : Array Int) (hs : ∀ i j, i < j → j < d.size → d[i]! ≤ d[j]!) : ∀ m, m ≤ d.size →
    (Lib.compactUpTo d m).Pairwise (· < ·) ∧ (∀ x, x ∈ Lib.compactUpTo d m ↔ ∃ j, j < m ∧ d[j]! = x)
  | 0, _ => by simp [Lib.compactUpTo]
  | m + 1, hm => by
    obtain ⟨h1, h2⟩ := compactZ_spec d hs m (by omega)
    rw [Lib.compactUpTo_succ]
    by_cases hk : Lib.keeps d m = true
    · rw [if_pos hk]
      refine ⟨List.pairwise_append.2 ⟨h1, List.pairwise_singleton _ _, fun a ha b hb => ?_⟩, fun x => ?_⟩
      · rw [List.mem_singleton] at hb
        subst hb
        obtain ⟨j, hj, rfl⟩ := (h2 a).1 ha
        have hne : d[m]! ≠ d[m - 1]! := by
          have : m = 0 ∨ d[m]! ≠ d[m - 1]! := by simpa [Lib.keeps] using hk
          rcases this with h0 | h0
          · omega
          · exact h0
        have hlt : d[m - 1]! < d[m]! := by have h1 := hs (m - 1) m (by omega) (by omega); exact Int.lt_iff_le_and_ne.2 ⟨h1, fun e => hne e.symm⟩
        rcases Nat.lt_or_ge j (m - 1) with hjm | hjm
        · exact Int.lt_of_le_of_lt (hs j (m - 1) hjm (by omega)) hlt
        · have : j = m - 1 := by omega
          subst this; exact hlt
      · rw [List.mem_append, h2, List.mem_singleton]
        constructor
        · rintro (⟨j, hj, rfl⟩ | rfl)
          · exact ⟨j, by omega, rfl⟩
          · exact ⟨m, by omega, rfl⟩
        · rintro ⟨j, hj, rfl⟩
          rcases Nat.lt_or_ge j m with h | h
          · exact .inl ⟨j, h, rfl⟩
          · have : j = m := by omega
            subst this; exact .inr rfl
    · rw [if_neg hk, List.append_nil]
      refine ⟨h1, fun x => ?_⟩
      have hno : m ≠ 0 ∧ d[m]! = d[m - 1]! := by simpa [Lib.keeps] using hk
      rw [h2]
      constructor
      · rintro ⟨j, hj, rfl⟩; exact ⟨j, by omega, rfl⟩
      · rintro ⟨j, hj, rfl⟩
        rcases Nat.lt_or_ge j m with h | h
        · exact ⟨j, h, rfl⟩
        · have : j = m := by omega
          subst this; exact ⟨j - 1, by omega, hno.2.symm⟩

theorem sortZ_mem (l : List Int) (x : Int) : x ∈ sortZ l ↔ x ∈ l := List.mem_mergeSort
theorem sortZ_sorted (l : List Int) : (sortZ l).Pairwise fun x y => x ≤ y := by
  have h := List.pairwise_mergeSort (le := fun x y : Int => decide (x ≤ y)) (fun a b c h1 h2 => by simp only [decide_eq_true_eq] at *; exact Int.le_trans h1 h2) (fun a b => by
    simp only [Bool.or_eq_true, decide_eq_true_eq]; exact Int.le_total a b) l
  exact h.imp fun h => by simpa using h

theorem compactZ_sort (l : List Int) : (Lib.compact (sortZ l)).Pairwise (· < ·) ∧ ∀ x, x ∈ Lib.compact (sortZ l) ↔ x ∈ l := by
  have hs : ∀ i j, i < j → j < (sortZ l).toArray.size → (sortZ l).toArray[i]! ≤ (sortZ l).toArray[j]! := by
    intro i j hij hj
    have hj' : j < (sortZ l).length := by simpa using hj
    have := List.pairwise_iff_getElem.1 (sortZ_sorted l) i j (by omega) hj' hij
    simpa [getElem!_pos, hj', show i < (sortZ l).length by omega] using this
  obtain ⟨h1, h2⟩ := compactZ_spec (sortZ l).toArray hs (sortZ l).length (by simp)
  refine ⟨h1, fun x => ?_⟩
  rw [← sortZ_mem l x]
  show x ∈ Lib.compactUpTo _ _ ↔ _
  rw [h2, List.mem_iff_getElem]
  constructor
  · rintro ⟨j, hj, rfl⟩; exact ⟨j, hj, by simp [getElem!_pos, hj]⟩
  · rintro ⟨j, hj, rfl⟩; exact ⟨j, hj, by simp [getElem!_pos, hj]⟩

theorem risingZ_uniq : ∀ (a b : List Int), a.Pairwise (· < ·) → b.Pairwise (· < ·) → (∀ z, z ∈ a ↔ z ∈ b) → a = b
  | [], [], _, _, _ => rfl
  | [], y :: b, _, _, h => absurd ((h y).2 (by simp)) (by simp)
  | x :: a, [], _, _, h => absurd ((h x).1 (by simp)) (by simp)
  | x :: a, y :: b, ha, hb, h => by
    obtain ⟨a1, a2⟩ := List.pairwise_cons.1 ha
    obtain ⟨b1, b2⟩ := List.pairwise_cons.1 hb
    have hxy : x = y := by
      rcases List.mem_cons.1 ((h x).1 (by simp)) with e | e
      · exact e
      · rcases List.mem_cons.1 ((h y).2 (by simp)) with e2 | e2
        · exact e2.symm
        · exact absurd (Int.lt_trans (b1 x e) (a1 y e2)) (Int.lt_irrefl _)
    subst hxy
    rw [risingZ_uniq a b a2 b2 fun z => ?_]
    constructor
    · intro hz
      rcases List.mem_cons.1 ((h z).1 (by simp [hz])) with e | e
      · subst e; exact absurd (a1 z hz) (Int.lt_irrefl _)
      · exact e
    · intro hz
      rcases List.mem_cons.1 ((h z).2 (by simp [hz])) with e | e
      · subst e; exact absurd (b1 z hz) (Int.lt_irrefl _)
      · exact e

/-- The number of a name, as the law seeks it: the last that is it. -/
def numL (s : ByteArray) : Nat → Int
  | 0 => 0
  | k + 1 => if nameS (k + 1) = s then ((k + 1 : Nat) : Int) else numL s k
theorem numL_none (s : ByteArray) : ∀ n, (∀ k, k < n → nameS (k + 1) ≠ s) → numL s n = 0
  | 0, _ => rfl
  | n + 1, h => by rw [numL, if_neg (h n (Nat.lt_succ_self _)), numL_none s n fun k hk => h k (Nat.lt_succ_of_lt hk)]
theorem namesB_getD : ∀ k : Fin 42, namesB.getD k.val ByteArray.empty = nameS k.val := by decide +kernel
theorem num_hit : ∀ k : Fin 42, numL (nameS k.val) 41 = opL (nameS k.val) := by decide +kernel
theorem num_op (s : ByteArray) : numL s 41 = opL s := by
  by_cases h : ∃ k : Fin 42, nameS k.val = s
  · obtain ⟨k, rfl⟩ := h
    exact num_hit k
  · have hn : ∀ k, k < 42 → nameS k ≠ s := fun k hk e => h ⟨⟨k, hk⟩, e⟩
    rw [numL_none s 41 fun k hk => hn (k + 1) (by omega)]
    have := Lib.idxFromS_miss s namesB 0 (fun j hj => by rw [namesB_getD ⟨j, hj⟩]; exact hn j hj)
    unfold opL Lib.idxOfS
    rw [this]
    rfl

/-- May the law's loop take k? -/
def wantB (at_ : Nat) (x : Ins) (k : Nat) : Bool := (k == at_ + 1 && x.op != 18 && x.op != 40 && x.op != 41) || (placeA x.op && x.a == (k : Int)) || (placeB x.op && x.b == (k : Int))
def wantL (n at_ : Nat) (x : Ins) : List Int := ((List.range n).filter (wantB at_ x)).map fun k : Nat => (k : Int)
theorem wantL_succ (n at_ : Nat) (x : Ins) : wantL (n + 1) at_ x = wantL n at_ x ++ (if wantB at_ x n = true then [(n : Int)] else []) := by
  unfold wantL
  rw [List.range_succ, List.filter_append, List.map_append]
  cases h : wantB at_ x n <;> simp [h]
theorem wantL_rising (n at_ : Nat) (x : Ins) : (wantL n at_ x).Pairwise (· < ·) := by
  unfold wantL
  rw [List.pairwise_map]
  exact ((List.pairwise_lt_range (n := n)).filter _).imp fun h => by omega
theorem mem_placesL (x : Ins) (v : Int) : v ∈ placesL x ↔ (placeA x.op = true ∧ v = x.a) ∨ (placeB x.op = true ∧ v = x.b) := by
  unfold placesL
  cases placeA x.op <;> cases placeB x.op <;> simp
theorem targ_want (n at_ : Nat) (x : Ins) (h41 : x.op ≠ 41) (h40 : x.op ≠ 40) : targX n (at_ : Int) x = wantL n at_ x := by
  obtain ⟨h1, h2⟩ := compactZ_sort ((placesL x ++ (if x.op = 18 then [] else [(at_ : Int) + 1])).filter fun y => !outB n y)
  refine risingZ_uniq _ _ h1 (wantL_rising n at_ x) fun z => ?_
  refine (h2 z).trans ?_
  rw [List.mem_filter, List.mem_append, mem_placesL]
  unfold wantL
  rw [List.mem_map]
  have e1 : (x.op != 41) = true := by simp [h41]
  have e2 : (x.op != 40) = true := by simp [h40]
  constructor
  · rintro ⟨hz, ho⟩
    have ho2 : 0 ≤ z ∧ z < n := by simp [outB] at ho; omega
    obtain ⟨k, rfl⟩ : ∃ k : Nat, z = k := ⟨z.toNat, by omega⟩
    refine ⟨k, List.mem_filter.2 ⟨List.mem_range.2 (by omega), ?_⟩, rfl⟩
    unfold wantB
    rw [e1, e2]
    rcases hz with (⟨p, q⟩ | ⟨p, q⟩) | hz
    · rw [p, ← q]; simp
    · rw [p, ← q]; simp
    · by_cases h18 : x.op = 18
      · rw [if_pos h18] at hz; cases hz
      · rw [if_neg h18, List.mem_singleton] at hz
        have e3 : (x.op != 18) = true := by simp [h18]
        have e4 : (k == at_ + 1) = true := by simp; omega
        rw [e3, e4]; rfl
  · rintro ⟨k, hk, rfl⟩
    obtain ⟨hk1, hk2⟩ := List.mem_filter.1 hk
    have hkn := List.mem_range.1 hk1
    refine ⟨?_, by simp [outB]; omega⟩
    unfold wantB at hk2
    rw [e1, e2] at hk2
    simp only [Bool.or_eq_true, Bool.and_eq_true, beq_iff_eq, bne_iff_ne, and_true] at hk2
    rcases hk2 with (⟨p, q⟩ | ⟨p, q⟩) | ⟨p, q⟩
    · right
      rw [if_neg q, List.mem_singleton]
      omega
    · exact .inl (.inl ⟨p, q.symm⟩)
    · exact .inl (.inr ⟨p, q.symm⟩)
theorem want_end (n at_ : Nat) (x : Ins) (h : x.op = 41 ∨ x.op = 40) : wantL n at_ x = [] := by
  unfold wantL
  rw [List.map_eq_nil_iff, List.filter_eq_nil_iff]
  intro k _
  unfold wantB
  rcases h with h | h <;> rw [h] <;> simp [placeA, placeB]
theorem targL_want (X : List Ins) (k : Nat) (h : k < X.length) : targL X (k : Int) = wantL X.length k X[k] := by
  unfold targL
  rw [if_neg (by omega), Int.toNat_natCast, List.getElem?_eq_getElem h]
  by_cases he : X[k].op = 41 ∨ X[k].op = 40
  · rw [want_end _ _ _ he]
    simp only [if_pos he]
  · simp only [if_neg he]
    exact targ_want _ _ _ (fun e => he (.inl e)) (fun e => he (.inr e))
theorem targL_out (X : List Ins) (i : Int) (h : i < 0 ∨ (X.length : Int) ≤ i) : targL X i = [] := by unfold targL; rw [if_pos h]
end Go.Proofs.YtpogngdddendiaaDoor
