/- Programs as trees: a list of nodes of which nothing is amiss is a tree laid flat, and the other way round (chapter 5), with no program in sight. No condition. -/
import Derived.Test.YtpogngdddendiaaDoorCheckM
set_option linter.unusedVariables false
set_option linter.unusedSimpArgs false
namespace Go.Proofs.YtpogngdddendiaaDoor

inductive Tr where
  | mk (kind n : Int) (s : List UInt8) (kids : List Tr) : Tr
def Tr.kind : Tr → Int | .mk k _ _ _ => k
def Tr.num : Tr → Int | .mk _ n _ _ => n
def Tr.str : Tr → List UInt8 | .mk _ _ s _ => s
def Tr.kids : Tr → List Tr | .mk _ _ _ ks => ks

mutual
def flat : Tr → List Nd
  | .mk kd n s ks => ⟨kd, n, ks.length, ((1 + (flatAll ks).length : Nat) : Int), s⟩ :: flatAll ks
def flatAll : List Tr → List Nd
  | [] => []
  | t :: ts => flat t ++ flatAll ts
end
theorem flat_mk (kd n : Int) (s : List UInt8) (ks : List Tr) : flat (.mk kd n s ks) = ⟨kd, n, ks.length, ((1 + (flatAll ks).length : Nat) : Int), s⟩ :: flatAll ks := by rw [flat]
theorem flatAll_nil : flatAll [] = [] := by rw [flatAll]
theorem flatAll_cons (t : Tr) (ts : List Tr) : flatAll (t :: ts) = flat t ++ flatAll ts := by rw [flatAll]
theorem flatAll_append (a b : List Tr) : flatAll (a ++ b) = flatAll a ++ flatAll b := by
  induction a with
  | nil => rw [flatAll_nil]; rfl
  | cons t a ih => rw [List.cons_append, flatAll_cons, flatAll_cons, ih, List.append_assoc]
theorem flatAll_flatten (ks : List Tr) : (ks.map flat).flatten = flatAll ks := by
  induction ks with
  | nil => rw [flatAll_nil]; rfl
  | cons t ks ih => rw [List.map_cons, List.flatten_cons, ih, flatAll_cons]
theorem flat_pos (t : Tr) : 1 ≤ (flat t).length := by
  cases t
  rw [flat_mk, List.length_cons]
  omega
theorem flat_head (t : Tr) : ∃ r, flat t = ⟨t.kind, t.num, t.kids.length, ((flat t).length : Int), t.str⟩ :: r := by
  cases t with
  | mk kd n s ks =>
    refine ⟨flatAll ks, ?_⟩
    rw [flat_mk]
    simp [Tr.kind, Tr.num, Tr.kids, Tr.str, Nat.add_comm]
theorem flat_get0 (t : Tr) (h : 0 < (flat t).length) : (flat t)[0] = ⟨t.kind, t.num, t.kids.length, ((flat t).length : Int), t.str⟩ := by
  cases t with
  | mk kd n s ks =>
    simp only [flat_mk, List.getElem_cons_zero, List.length_cons, Tr.kind, Tr.num, Tr.kids, Tr.str, Nat.add_comm 1]
theorem newL_flat (kd n : Int) (s : List UInt8) (ks : List Tr) : newL kd n s (ks.map flat) = flat (.mk kd n s ks) := by
  rw [flat_mk, newL, flatAll_flatten, List.length_map]
  simp

def okAll (f : Nat → Tr → Bool) : Nat → List Tr → Bool
  | _, [] => true
  | k, t :: ts => f k t && okAll f (k + 1) ts
/-- May a tree be, where so many levels may be? -/
def okT : Nat → Bool → Tr → Bool
  | 0, _, _ => false
  | d + 1, word, .mk kd n s ks => kindB word kd && fieldsB ⟨kd, n, 0, 0, s⟩ && childrenB kd ks.length && okAll (fun k t => okT d (takesB kd ks.length k) t) 0 ks

theorem fieldsB_eq (kd n k z k' z' : Int) (s : List UInt8) : fieldsB ⟨kd, n, k, z, s⟩ = fieldsB ⟨kd, n, k', z', s⟩ := rfl

theorem take_drop_size {L : List Nd} {c a b : Nat} : (L.drop c).take (a + b) = (L.drop c).take a ++ (L.drop (c + a)).take b := by
  rw [List.take_add, List.drop_drop]

theorem kids_sound (L : List Nd) (e K : Nat) (f : Nat → Nat → Option (Nat × Bool)) (ok : Nat → Tr → Bool) (he : e ≤ L.length)
    (hf : ∀ k c (hc : c < L.length), c < e → f k c = none → 1 ≤ L[c].size ∧ L[c].size ≤ (e : Int) - c ∧ (k + 1 = K → L[c].size = (e : Int) - c) ∧ ∃ t, ok k t = true ∧ flat t = (L.drop c).take L[c].size.toNat) :
    ∀ (r k c : Nat), k + r = K → c ≤ e → (r = 0 → c = e) → preP L e r c = false → kidsP f L r k c = none → ∃ ts, ts.length = r ∧ okAll ok k ts = true ∧ flatAll ts = (L.drop c).take (e - c) := by
  intro r
  induction r with
  | zero =>
    intro k c _ _ hce _ _
    refine ⟨[], rfl, rfl, ?_⟩
    rw [hce rfl, Nat.sub_self, List.take_zero, flatAll_nil]
  | succ r ih =>
    intro k c hk hc _ hp hn
    have hce : c < e := by
      rcases Nat.lt_or_ge c e with h | h
      · exact h
      · rw [preP_end h] at hp; cases hp
    have hcl : c < L.length := by omega
    cases hz : f k c with
    | some z => rw [kidsP_some hz] at hn; cases hn
    | none =>
      obtain ⟨h1, h2, h3, t, ht, hft⟩ := hf k c hcl hce hz
      rw [kidsP_none hz hcl] at hn
      rw [preP_next hce hcl (by omega)] at hp
      obtain ⟨ts, hl, hok, hfl⟩ := ih (k + 1) (c + L[c].size.toNat) (by omega) (by omega) (fun hr => by have := h3 (by omega); omega) hp hn
      refine ⟨t :: ts, by simp [hl], by rw [okAll, ht, hok]; rfl, ?_⟩
      rw [flatAll_cons, hft, hfl, show e - c = L[c].size.toNat + (e - (c + L[c].size.toNat)) by omega, take_drop_size]

/-- Where nothing is amiss there is a tree. -/
theorem look_sound (L : List Nd) : ∀ (d i e : Nat) (word last : Bool) (hi : i < L.length), e ≤ L.length → lookP L d i e word last = none → ∃ t, okT d word t = true ∧ flat t = (L.drop i).take L[i].size.toNat := by
  intro d
  induction d with
  | zero =>
    intro i e word last hi he h
    exfalso
    have hx := List.getElem?_eq_getElem hi
    cases hb : headBad L[i] ((e : Int) - i) word last with
    | true => rw [lookP_bad hx hb] at h; cases h
    | false =>
      by_cases h2 : L[i].k = 0 ∧ L[i].size ≠ 1
      · rw [lookP_leaf hx hb h2] at h; cases h
      · cases h3 : preP L (i + L[i].size.toNat) L[i].k.toNat (i + 1) with
        | true => rw [lookP_pre hx hb h2 h3] at h; cases h
        | false => rw [lookP_deep hx hb h2 h3] at h; cases h
  | succ d ih =>
    intro i e word last hi he h
    have hx := List.getElem?_eq_getElem hi
    cases hb : headBad L[i] ((e : Int) - i) word last with
    | true => rw [lookP_bad hx hb] at h; cases h
    | false =>
      by_cases h2 : L[i].k = 0 ∧ L[i].size ≠ 1
      · rw [lookP_leaf hx hb h2] at h; cases h
      · cases h3 : preP L (i + L[i].size.toNat) L[i].k.toNat (i + 1) with
        | true => rw [lookP_pre hx hb h2 h3] at h; cases h
        | false =>
          rw [lookP_kids hx hb h2 h3] at h
          obtain ⟨g1, g2, g3, g4, g5, _⟩ := headBad_false hb
          have hk := children_k g3
          obtain ⟨ts, hl, hok, hfl⟩ := kids_sound L (i + L[i].size.toNat) L[i].k.toNat _ (fun k t => okT d (takesB L[i].kind L[i].k k) t) (by omega) (fun k c hc hce hz => by
            have hf := lookP_fits hc hz
            obtain ⟨t, ht1, ht2⟩ := ih c _ _ _ hc (by omega) hz
            exact ⟨hf.1, hf.2.1, fun hkk => hf.2.2 (by simp only [decide_eq_true_eq]; omega), t, ht1, ht2⟩) L[i].k.toNat 0 (i + 1) (by omega) (by omega) (fun h0 => by omega) h3 h
          refine ⟨.mk L[i].kind L[i].n L[i].s ts, ?_, ?_⟩
          · rw [okT]
            have hkl : ((ts.length : Nat) : Int) = L[i].k := by rw [hl]; omega
            simp only [hkl, Bool.and_eq_true]
            exact ⟨⟨⟨g1, g2⟩, g3⟩, hok⟩
          · obtain ⟨q, hq⟩ : ∃ q, L[i].size.toNat = q + 1 := ⟨L[i].size.toNat - 1, by omega⟩
            rw [hq, show i + (q + 1) - (i + 1) = q by omega] at hfl
            have hfl2 : (flatAll ts).length = q := by
              rw [hfl, List.length_take, List.length_drop]
              omega
            rw [flat_mk, hfl2, hfl, hq, List.drop_eq_getElem_cons hi, List.take_succ_cons]
            congr 1
            have e1 : ((ts.length : Nat) : Int) = L[i].k := by rw [hl]; omega
            have e2 : ((1 + q : Nat) : Int) = L[i].size := by omega
            rw [e1, e2]

/-- so many kids from place c on, which end at e -/
theorem kids_complete (L : List Nd) (e K : Nat) (f : Nat → Nat → Option (Nat × Bool)) (ok : Nat → Tr → Bool)
    (hf : ∀ k c t rest, ok k t = true → L.drop c = flat t ++ rest → c + (flat t).length ≤ e → (k + 1 = K → c + (flat t).length = e) → f k c = none) :
    ∀ (ks : List Tr) (k c : Nat) (rest : List Nd), k + ks.length = K → L.drop c = flatAll ks ++ rest → c + (flatAll ks).length = e → okAll ok k ks = true → preP L e ks.length c = false ∧ kidsP f L ks.length k c = none := by
  intro ks
  induction ks with
  | nil => intro k c rest _ _ _ _; exact ⟨rfl, rfl⟩
  | cons t ks ih =>
    intro k c rest hk hd hl hok
    rw [okAll, Bool.and_eq_true] at hok
    rw [flatAll_cons] at hd hl
    rw [List.length_append] at hl
    rw [List.append_assoc] at hd
    have hp := flat_pos t
    have hcl : c < L.length := by
      rcases Nat.lt_or_ge c L.length with h | h
      · exact h
      · rw [List.drop_of_length_le h] at hd
        have := congrArg List.length hd
        simp at this
        omega
    have hsz : L[c].size = ((flat t).length : Int) := by
      obtain ⟨r, hr⟩ := flat_head t
      have h1 := hd
      rw [List.drop_eq_getElem_cons hcl, hr, List.cons_append] at h1
      injection h1 with h1 _
      rw [h1]
    have hdn : L.drop (c + (flat t).length) = flatAll ks ++ rest := by
      rw [← List.drop_drop, hd, List.drop_left]
    have hn : f k c = none := hf k c t _ hok.1 hd (by omega) (fun hkk => by
      have h0 : ks.length = 0 := by simp at hk; omega
      rw [List.eq_nil_of_length_eq_zero h0, flatAll_nil] at hl
      simpa using hl)
    have hih := ih (k + 1) (c + (flat t).length) rest (by simp at hk; omega) hdn (by omega) hok.2
    have hq : c + L[c].size.toNat = c + (flat t).length := by rw [hsz]; omega
    rw [List.length_cons, preP_next (by omega) hcl (by rw [hsz]; omega), kidsP_none hn hcl, hq]
    exact hih

/-- In a tree laid flat nothing is amiss. -/
theorem look_complete (L : List Nd) : ∀ (d i e : Nat) (word last : Bool) (t : Tr) (rest : List Nd), okT d word t = true → L.drop i = flat t ++ rest → i + (flat t).length ≤ e → (last = true → i + (flat t).length = e) → lookP L d i e word last = none := by
  intro d
  induction d with
  | zero => intro i e word last t rest h _ _ _; rw [okT] at h; cases h
  | succ d ih =>
    intro i e word last t rest h hd hl hlast
    cases t with
    | mk kd n s ks =>
    rw [okT] at h
    simp only [Bool.and_eq_true] at h
    obtain ⟨⟨⟨h1, h2⟩, h3⟩, h4⟩ := h
    rw [flat_mk] at hd hl hlast
    rw [List.length_cons] at hl hlast
    rw [List.cons_append] at hd
    have hcl : i < L.length := by
      rcases Nat.lt_or_ge i L.length with h | h
      · exact h
      · rw [List.drop_of_length_le h] at hd; cases hd
    have hd1 := hd
    rw [List.drop_eq_getElem_cons hcl] at hd1
    injection hd1 with hx hr
    have hx' := List.getElem?_eq_getElem hcl
    rw [hx] at hx'
    have hb : headBad ⟨kd, n, ks.length, ((1 + (flatAll ks).length : Nat) : Int), s⟩ ((e : Int) - i) word last = false := by
      unfold headBad
      simp only [Bool.or_eq_false_iff, Bool.not_eq_false', decide_eq_false_iff_not, Bool.and_eq_false_iff, bne_eq_false_iff_eq]
      refine ⟨⟨⟨⟨⟨h1, h2⟩, h3⟩, by omega⟩, by omega⟩, ?_⟩
      cases last with
      | false => exact .inl rfl
      | true => have := hlast rfl; exact .inr (by omega)
    have hq : i + ((1 + (flatAll ks).length : Nat) : Int).toNat = i + 1 + (flatAll ks).length := by omega
    have hkk : ((ks.length : Nat) : Int).toNat = ks.length := by omega
    obtain ⟨c1, c2⟩ := kids_complete L (i + 1 + (flatAll ks).length) ks.length (fun k c => lookP L d c (i + 1 + (flatAll ks).length) (takesB kd ks.length k) (decide ((k : Int) = (ks.length : Int) - 1))) (fun k t => okT d (takesB kd ks.length k) t)
      (fun k c t rest h5 h6 h7 h8 => ih c _ _ _ t rest h5 h6 h7 (fun h9 => h8 (by simp only [decide_eq_true_eq] at h9; omega))) ks 0 (i + 1) rest (by simp) hr rfl h4
    rw [lookP_kids hx' hb (by simp only; intro hh; have h5 : ks = [] := List.eq_nil_of_length_eq_zero (by omega); rw [h5, flatAll_nil] at hh; simp at hh) (by simp only [hq, hkk]; exact c1)]
    simp only [hq, hkk]
    exact c2

theorem flat_size (kd n : Int) (s : List UInt8) (ks : List Tr) : (flat (.mk kd n s ks)).length = 1 + (flatAll ks).length := by rw [flat_mk, List.length_cons]; omega

/-- A program: a list of nodes of which nothing is amiss. -/
theorem check_tree (L : List Nd) (hL : L.length ≠ 0) : checkP L = none ↔ ∃ t, okT 30 false t = true ∧ flat t = L := by
  unfold checkP
  constructor
  · intro h
    have hi : 0 < L.length := by omega
    obtain ⟨t, h1, h2⟩ := look_sound L 30 0 L.length false true hi (Nat.le_refl _) h
    have hf := lookP_fits hi h
    have h3 := hf.2.2 rfl
    rw [show L[0].size.toNat = L.length by omega] at h2
    exact ⟨t, h1, by rw [h2]; simp⟩
  · rintro ⟨t, h1, h2⟩
    exact look_complete L 30 0 L.length false true t [] h1 (by simp [h2]) (by rw [h2]; omega) (fun _ => by rw [h2]; omega)

theorem kidsGo_flat (L : List Nd) : ∀ (ks : List Tr) (c e : Nat) (rest : List Nd), L.drop c = flatAll ks ++ rest → c + (flatAll ks).length ≤ e → kidsGo L e ks.length c = ks.map flat := by
  intro ks
  induction ks with
  | nil => intro c e rest _ _; rfl
  | cons t ks ih =>
    intro c e rest hd hl
    rw [flatAll_cons] at hd hl
    rw [List.length_append] at hl
    rw [List.append_assoc] at hd
    have hp := flat_pos t
    have hcl : c < L.length := by
      rcases Nat.lt_or_ge c L.length with h | h
      · exact h
      · rw [List.drop_of_length_le h] at hd
        have := congrArg List.length hd
        simp at this
        omega
    have hsz : L[c].size = ((flat t).length : Int) := by
      obtain ⟨r, hr⟩ := flat_head t
      have h1 := hd
      rw [List.drop_eq_getElem_cons hcl, hr, List.cons_append] at h1
      injection h1 with h1 _
      rw [h1]
    have hdn : L.drop (c + (flat t).length) = flatAll ks ++ rest := by
      rw [← List.drop_drop, hd, List.drop_left]
    have hq : L[c].size.toNat = (flat t).length := by rw [hsz]; omega
    rw [List.length_cons, kidsGo_some hcl (by omega) (by rw [hsz]; omega) (by rw [hsz]; omega), hq, ih (c + (flat t).length) e rest hdn (by omega), hd, List.take_left]
    rfl
/-- The children of a tree laid flat. -/
theorem kidsL_flat (kd n : Int) (s : List UInt8) (ks : List Tr) : kidsL (flat (.mk kd n s ks)) = ks.map flat := by
  rw [flat_mk, kidsL]
  simp only
  rw [show ((ks.length : Nat) : Int).toNat = ks.length by omega]
  refine kidsGo_flat _ ks 1 _ [] (by simp) ?_
  rw [List.length_cons]
  omega
theorem kidsL_tree (t : Tr) : kidsL (flat t) = t.kids.map flat := by
  cases t with
  | mk kd n s ks => exact kidsL_flat kd n s ks
theorem flat_inj : ∀ (N : Nat) (t t' : Tr), (flat t).length ≤ N → flat t = flat t' → t = t' := by
  intro N
  induction N with
  | zero => intro t t' h _; have := flat_pos t; omega
  | succ N ih =>
    intro t t' h he
    have hk := congrArg kidsL he
    rw [kidsL_tree, kidsL_tree] at hk
    have h0 : (flat t)[0]'(flat_pos t) = (flat t')[0]'(flat_pos t') := by simp only [he]
    rw [flat_get0, flat_get0] at h0
    cases t with
    | mk kd n s ks =>
    cases t' with
    | mk kd' n' s' ks' =>
    simp only [Nd.mk.injEq, Tr.kind, Tr.num, Tr.str, Tr.kids] at h0 hk
    obtain ⟨h1, h2, _, _, h5⟩ := h0
    subst h1 h2 h5
    rw [flat_size] at h
    have : ∀ (a b : List Tr), (flatAll a).length ≤ N → a.map flat = b.map flat → a = b := by
      intro a
      induction a with
      | nil => intro b _ hb; cases b with | nil => rfl | cons _ _ => cases hb
      | cons x a iha =>
        intro b hl hb
        cases b with
        | nil => cases hb
        | cons y b =>
          rw [flatAll_cons, List.length_append] at hl
          rw [List.map_cons, List.map_cons] at hb
          injection hb with hb1 hb2
          rw [ih x y (by omega) hb1, iha b (by omega) hb2]
    rw [this ks ks' (by omega) hk]
theorem flatAll_take_le (ks : List Tr) (k : Nat) : (flatAll (ks.take k)).length ≤ (flatAll ks).length := by
  have h : flatAll ks = flatAll (ks.take k) ++ flatAll (ks.drop k) := by rw [← flatAll_append, List.take_append_drop]
  rw [h, List.length_append]; omega
theorem flatAll_mem_le (ks : List Tr) (k : Nat) (h : k < ks.length) : (flat ks[k]).length ≤ (flatAll ks).length := by
  have h1 := flatAll_take_le ks (k + 1)
  rw [List.take_succ_eq_append_getElem h, flatAll_append, flatAll_cons, flatAll_nil, List.append_nil, List.length_append] at h1
  omega
theorem len_flatAll (ks : List Tr) : ks.length ≤ (flatAll ks).length := by
  induction ks with
  | nil => exact Nat.le_refl _
  | cons t ks ih => have := flat_pos t; rw [flatAll_cons, List.length_append, List.length_cons]; omega
theorem flat_kids_le (t : Tr) : (flatAll t.kids).length + 1 = (flat t).length := by
  cases t; rw [flat_size]; simp only [Tr.kids]; omega
end Go.Proofs.YtpogngdddendiaaDoor
