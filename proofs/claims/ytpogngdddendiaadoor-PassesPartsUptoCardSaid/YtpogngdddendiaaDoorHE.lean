/- What core.Check does, as a plain function on lists of nodes, with no program in sight. No condition. -/
import Derived.Test.YtpogngdddendiaaDoorHD
import Derived.Test.YtpogngdddendiaaDoorHB
import Derived.Orders
import Derived.Deep.LoopGhost
set_option linter.unusedVariables false
set_option linter.unusedSimpArgs false
namespace Go.Proofs.YtpogngdddendiaaDoor

def kindB (word : Bool) (kind : Int) : Bool := if word then wordB kind else commandB kind
/-- Is a node amiss, but for its children? -/
def headBad (x : Nd) (room : Int) (word last : Bool) : Bool := !kindB word x.kind || !fieldsB x || !childrenB x.kind x.k || decide (x.size < 1) || decide (x.size > room) || (last && x.size != room)
/-- Do so many children, from place c on, not begin within the node? -/
def preP (L : List Nd) (e : Nat) : Nat → Nat → Bool
  | 0, _ => false
  | r + 1, c => if e ≤ c then true else match L[c]? with
    | none => true
    | some y => if y.size < 1 ∨ y.size > (e : Int) - c then false else preP L e r (c + y.size.toNat)
def kidsP (f : Nat → Nat → Option (Nat × Bool)) (L : List Nd) : Nat → Nat → Nat → Option (Nat × Bool)
  | 0, _, _ => none
  | r + 1, k, c => match f k c with
    | some z => some z
    | none => kidsP f L r (k + 1) (c + match L[c]? with | some y => y.size.toNat | none => 0)
/-- What is amiss with the node at place i, which is to end at e at most: the place, and whether it is nested too deep; d: so many levels more may be. -/
def lookP (L : List Nd) : Nat → Nat → Nat → Bool → Bool → Option (Nat × Bool)
  | d, i, e, word, last => match L[i]? with
    | none => none
    | some x =>
      if headBad x ((e : Int) - i) word last then some (i, false) else
      if x.k = 0 ∧ x.size ≠ 1 then some (i, false) else
      if preP L (i + x.size.toNat) x.k.toNat (i + 1) then some (i, false) else
      match d with
      | 0 => some (i, true)
      | d + 1 => kidsP (fun k c => lookP L d c (i + x.size.toNat) (takesB x.kind x.k k) (decide ((k : Int) = x.k - 1))) L x.k.toNat 0 (i + 1)
def manyB (L : List Nd) : Bool := L.length == 0 || decide (L.length > 3000)

theorem headBad_false {x : Nd} {room : Int} {word last : Bool} (h : headBad x room word last = false) : kindB word x.kind = true ∧ fieldsB x = true ∧ childrenB x.kind x.k = true ∧ 1 ≤ x.size ∧ x.size ≤ room ∧ (last = true → x.size = room) := by
  simp only [headBad, Bool.or_eq_false_iff, Bool.not_eq_false', decide_eq_false_iff_not, Bool.and_eq_false_iff, bne_eq_false_iff_eq] at h
  obtain ⟨⟨⟨⟨⟨h1, h2⟩, h3⟩, h4⟩, h5⟩, h6⟩ := h
  refine ⟨h1, h2, h3, by omega, by omega, fun hl => ?_⟩
  rcases h6 with h6 | h6
  · rw [hl] at h6; cases h6
  · exact h6
theorem children_k {kind k : Int} (h : childrenB kind k = true) : 0 ≤ k := by
  unfold childrenB at h
  repeat' (split at h)
  all_goals simp only [beq_iff_eq, decide_eq_true_eq, Bool.and_eq_true] at h
  all_goals omega
theorem lookP_bad {L : List Nd} {d i e : Nat} {word last : Bool} {x : Nd} (hx : L[i]? = some x) (h : headBad x ((e : Int) - i) word last = true) : lookP L d i e word last = some (i, false) := by
  unfold lookP
  rw [hx]
  simp only
  rw [if_pos h]
theorem lookP_leaf {L : List Nd} {d i e : Nat} {word last : Bool} {x : Nd} (hx : L[i]? = some x) (h : headBad x ((e : Int) - i) word last = false) (h2 : x.k = 0 ∧ x.size ≠ 1) : lookP L d i e word last = some (i, false) := by
  unfold lookP
  rw [hx]
  simp only
  rw [if_neg (by rw [h]; exact Bool.noConfusion), if_pos h2]
theorem lookP_pre {L : List Nd} {d i e : Nat} {word last : Bool} {x : Nd} (hx : L[i]? = some x) (h : headBad x ((e : Int) - i) word last = false) (h2 : ¬ (x.k = 0 ∧ x.size ≠ 1)) (h3 : preP L (i + x.size.toNat) x.k.toNat (i + 1) = true) : lookP L d i e word last = some (i, false) := by
  unfold lookP
  rw [hx]
  simp only
  rw [if_neg (by rw [h]; exact Bool.noConfusion), if_neg h2, if_pos h3]
theorem lookP_deep {L : List Nd} {i e : Nat} {word last : Bool} {x : Nd} (hx : L[i]? = some x) (h : headBad x ((e : Int) - i) word last = false) (h2 : ¬ (x.k = 0 ∧ x.size ≠ 1)) (h3 : preP L (i + x.size.toNat) x.k.toNat (i + 1) = false) : lookP L 0 i e word last = some (i, true) := by
  unfold lookP
  rw [hx]
  simp only
  rw [if_neg (by rw [h]; exact Bool.noConfusion), if_neg h2, if_neg (by rw [h3]; exact Bool.noConfusion)]
theorem lookP_kids {L : List Nd} {d i e : Nat} {word last : Bool} {x : Nd} (hx : L[i]? = some x) (h : headBad x ((e : Int) - i) word last = false) (h2 : ¬ (x.k = 0 ∧ x.size ≠ 1)) (h3 : preP L (i + x.size.toNat) x.k.toNat (i + 1) = false) :
    lookP L (d + 1) i e word last = kidsP (fun k c => lookP L d c (i + x.size.toNat) (takesB x.kind x.k k) (decide ((k : Int) = x.k - 1))) L x.k.toNat 0 (i + 1) := by
  conv => lhs; unfold lookP
  rw [hx]
  simp only
  rw [if_neg (by rw [h]; exact Bool.noConfusion), if_neg h2, if_neg (by rw [h3]; exact Bool.noConfusion)]
/-- A node of which nothing is amiss is of a size that fits. -/
theorem lookP_fits {L : List Nd} {d i e : Nat} {word last : Bool} (hi : i < L.length) (h : lookP L d i e word last = none) : 1 ≤ L[i].size ∧ L[i].size ≤ (e : Int) - i ∧ (last = true → L[i].size = (e : Int) - i) := by
  cases hb : headBad L[i] ((e : Int) - i) word last with
  | true => rw [lookP_bad (List.getElem?_eq_getElem hi) hb] at h; cases h
  | false =>
    obtain ⟨_, _, _, h4, h5, h6⟩ := headBad_false hb
    exact ⟨h4, h5, h6⟩
theorem preP_end {L : List Nd} {e r c : Nat} (h : e ≤ c) : preP L e (r + 1) c = true := by
  rw [preP, if_pos h]
theorem preP_bad {L : List Nd} {e r c : Nat} (h : c < e) (hc : c < L.length) (hs : L[c].size < 1 ∨ L[c].size > (e : Int) - c) : preP L e (r + 1) c = false := by
  rw [preP, if_neg (by omega), List.getElem?_eq_getElem hc]
  simp only
  rw [if_pos hs]
theorem preP_next {L : List Nd} {e r c : Nat} (h : c < e) (hc : c < L.length) (hs : ¬ (L[c].size < 1 ∨ L[c].size > (e : Int) - c)) : preP L e (r + 1) c = preP L e r (c + L[c].size.toNat) := by
  rw [preP, if_neg (by omega), List.getElem?_eq_getElem hc]
  simp only
  rw [if_neg hs]
theorem kidsP_some {f : Nat → Nat → Option (Nat × Bool)} {L : List Nd} {r k c : Nat} {z : Nat × Bool} (h : f k c = some z) : kidsP f L (r + 1) k c = some z := by
  rw [kidsP, h]
theorem kidsP_none {f : Nat → Nat → Option (Nat × Bool)} {L : List Nd} {r k c : Nat} (h : f k c = none) (hc : c < L.length) : kidsP f L (r + 1) k c = kidsP f L r (k + 1) (c + L[c].size.toNat) := by
  rw [kidsP, h, List.getElem?_eq_getElem hc]
/-- What Check answers where there are not too many nodes. -/
def checkP (L : List Nd) : Option (Nat × Bool) := lookP L 30 0 L.length false true
end Go.Proofs.YtpogngdddendiaaDoor

/- Programs as trees: a list of nodes of which nothing is amiss is a tree laid flat, and the other way round (chapter 5), with no program in sight. No condition. -/
set_option linter.unusedVariables false
set_option linter.unusedSimpArgs false
namespace Go.Proofs.YtpogngdddendiaaDoor

inductive Tr where
  | mk (kind n : Int) (s : List UInt8) (kids : List Tr) : Tr
def Tr.kind : Tr → Int | .mk k _ _ _ => k
def Tr.num : Tr → Int | .mk _ n _ _ => n
def Tr.str : Tr → List UInt8 | .mk _ _ s _ => s
def Tr.kids : Tr → List Tr | .mk _ _ _ ks => ks

mutual
def flat : Tr → List Nd
  | .mk kd n s ks => ⟨kd, n, ks.length, ((1 + (flatAll ks).length : Nat) : Int), s⟩ :: flatAll ks
def flatAll : List Tr → List Nd
  | [] => []
  | t :: ts => flat t ++ flatAll ts
end
theorem flat_mk (kd n : Int) (s : List UInt8) (ks : List Tr) : flat (.mk kd n s ks) = ⟨kd, n, ks.length, ((1 + (flatAll ks).length : Nat) : Int), s⟩ :: flatAll ks := by rw [flat]
theorem flatAll_nil : flatAll [] = [] := by rw [flatAll]
theorem flatAll_cons (t : Tr) (ts : List Tr) : flatAll (t :: ts) = flat t ++ flatAll ts := by rw [flatAll]
theorem flatAll_append (a b : List Tr) : flatAll (a ++ b) = flatAll a ++ flatAll b := by
  induction a with
  | nil => rw [flatAll_nil]; rfl
  | cons t a ih => rw [List.cons_append, flatAll_cons, flatAll_cons, ih, List.append_assoc]
theorem flatAll_flatten (ks : List Tr) : (ks.map flat).flatten = flatAll ks := by
  induction ks with
  | nil => rw [flatAll_nil]; rfl
  | cons t ks ih => rw [List.map_cons, List.flatten_cons, ih, flatAll_cons]
theorem flat_pos (t : Tr) : 1 ≤ (flat t).length := by
  cases t
  rw [flat_mk, List.length_cons]
  omega
theorem flat_head (t : Tr) : ∃ r, flat t = ⟨t.kind, t.num, t.kids.length, ((flat t).length : Int), t.str⟩ :: r := by
  cases t with
  | mk kd n s ks =>
    refine ⟨flatAll ks, ?_⟩
    rw [flat_mk]
    simp [Tr.kind, Tr.num, Tr.kids, Tr.str, Nat.add_comm]
theorem flat_get0 (t : Tr) (h : 0 < (flat t).length) : (flat t)[0] = ⟨t.kind, t.num, t.kids.length, ((flat t).length : Int), t.str⟩ := by
  cases t with
  | mk kd n s ks =>
    simp only [flat_mk, List.getElem_cons_zero, List.length_cons, Tr.kind, Tr.num, Tr.kids, Tr.str, Nat.add_comm 1]
theorem newL_flat (kd n : Int) (s : List UInt8) (ks : List Tr) : newL kd n s (ks.map flat) = flat (.mk kd n s ks) := by
  rw [flat_mk, newL, flatAll_flatten, List.length_map]
  simp

def okAll (f : Nat → Tr → Bool) : Nat → List Tr → Bool
  | _, [] => true
  | k, t :: ts => f k t && okAll f (k + 1) ts
/-- May a tree be, where so many levels may be? -/
def okT : Nat → Bool → Tr → Bool
  | 0, _, _ => false
  | d + 1, word, .mk kd n s ks => kindB word kd && fieldsB ⟨kd, n, 0, 0, s⟩ && childrenB kd ks.length && okAll (fun k t => okT d (takesB kd ks.length k) t) 0 ks

theorem fieldsB_eq (kd n k z k' z' : Int) (s : List UInt8) : fieldsB ⟨kd, n, k, z, s⟩ = fieldsB ⟨kd, n, k', z', s⟩ := rfl

theorem take_drop_size {L : List Nd} {c a b : Nat} : (L.drop c).take (a + b) = (L.drop c).take a ++ (L.drop (c + a)).take b := by
  rw [List.take_add, List.drop_drop]

theorem kids_sound (L : List Nd) (e K : Nat) (f : Nat → Nat → Option (Nat × Bool)) (ok : Nat → Tr → Bool) (he : e ≤ L.length)
    (hf : ∀ k c (hc : c < L.length), c < e → f k c = none → 1 ≤ L[c].size ∧ L[c].size ≤ (e : Int) - c ∧ (k + 1 = K → L[c].size = (e : Int) - c) ∧ ∃ t, ok k t = true ∧ flat t = (L.drop c).take L[c].size.toNat) :
    ∀ (r k c : Nat), k + r = K → c ≤ e → (r = 0 → c = e) → preP L e r c = false → kidsP f L r k c = none → ∃ ts, ts.length = r ∧ okAll ok k ts = true ∧ flatAll ts = (L.drop c).take (e - c) := by
  intro r
  induction r with
  | zero =>
    intro k c _ _ hce _ _
    refine ⟨[], rfl, rfl, ?_⟩
    rw [hce rfl, Nat.sub_self, List.take_zero, flatAll_nil]
  | succ r ih =>
    intro k c hk hc _ hp hn
    have hce : c < e := by
      rcases Nat.lt_or_ge c e with h | h
      · exact h
      · rw [preP_end h] at hp; cases hp
    have hcl : c < L.length := by omega
    cases hz : f k c with
    | some z => rw [kidsP_some hz] at hn; cases hn
    | none =>
      obtain ⟨h1, h2, h3, t, ht, hft⟩ := hf k c hcl hce hz
      rw [kidsP_none hz hcl] at hn
      rw [preP_next hce hcl (by omega)] at hp
      obtain ⟨ts, hl, hok, hfl⟩ := ih (k + 1) (c + L[c].size.toNat) (by omega) (by omega) (fun hr => by have := h3 (by omega); omega) hp hn
      refine ⟨t :: ts, by simp [hl], by rw [okAll, ht, hok]; rfl, ?_⟩
      rw [flatAll_cons, hft, hfl, show e - c = L[c].size.toNat + (e - (c + L[c].size.toNat)) by omega, take_drop_size]

/-- Where nothing is amiss there is a tree. -/
theorem look_sound (L : List Nd) : ∀ (d i e : Nat) (word last : Bool) (hi : i < L.length), e ≤ L.length → lookP L d i e word last = none → ∃ t, okT d word t = true ∧ flat t = (L.drop i).take L[i].size.toNat := by
  intro d
  induction d with
  | zero =>
    intro i e word last hi he h
    exfalso
    have hx := List.getElem?_eq_getElem hi
    cases hb : headBad L[i] ((e : Int) - i) word last with
    | true => rw [lookP_bad hx hb] at h; cases h
    | false =>
      by_cases h2 : L[i].k = 0 ∧ L[i].size ≠ 1
      · rw [lookP_leaf hx hb h2] at h; cases h
      · cases h3 : preP L (i + L[i].size.toNat) L[i].k.toNat (i + 1) with
        | true => rw [lookP_pre hx hb h2 h3] at h; cases h
        | false => rw [lookP_deep hx hb h2 h3] at h; cases h
  | succ d ih =>
    intro i e word last hi he h
    have hx := List.getElem?_eq_getElem hi
    cases hb : headBad L[i] ((e : Int) - i) word last with
    | true => rw [lookP_bad hx hb] at h; cases h
    | false =>
      by_cases h2 : L[i].k = 0 ∧ L[i].size ≠ 1
      · rw [lookP_leaf hx hb h2] at h; cases h
      · cases h3 : preP L (i + L[i].size.toNat) L[i].k.toNat (i + 1) with
        | true => rw [lookP_pre hx hb h2 h3] at h; cases h
        | false =>
          rw [lookP_kids hx hb h2 h3] at h
          obtain ⟨g1, g2, g3, g4, g5, _⟩ := headBad_false hb
          have hk := children_k g3
          obtain ⟨ts, hl, hok, hfl⟩ := kids_sound L (i + L[i].size.toNat) L[i].k.toNat _ (fun k t => okT d (takesB L[i].kind L[i].k k) t) (by omega) (fun k c hc hce hz => by
            have hf := lookP_fits hc hz
            obtain ⟨t, ht1, ht2⟩ := ih c _ _ _ hc (by omega) hz
            exact ⟨hf.1, hf.2.1, fun hkk => hf.2.2 (by simp only [decide_eq_true_eq]; omega), t, ht1, ht2⟩) L[i].k.toNat 0 (i + 1) (by omega) (by omega) (fun h0 => by omega) h3 h
          refine ⟨.mk L[i].kind L[i].n L[i].s ts, ?_, ?_⟩
          · rw [okT]
            have hkl : ((ts.length : Nat) : Int) = L[i].k := by rw [hl]; omega
            simp only [hkl, Bool.and_eq_true]
            exact ⟨⟨⟨g1, g2⟩, g3⟩, hok⟩
          · obtain ⟨q, hq⟩ : ∃ q, L[i].size.toNat = q + 1 := ⟨L[i].size.toNat - 1, by omega⟩
            rw [hq, show i + (q + 1) - (i + 1) = q by omega] at hfl
            have hfl2 : (flatAll ts).length = q := by
              rw [hfl, List.length_take, List.length_drop]
              omega
            rw [flat_mk, hfl2, hfl, hq, List.drop_eq_getElem_cons hi, List.take_succ_cons]
            congr 1
            have e1 : ((ts.length : Nat) : Int) = L[i].k := by rw [hl]; omega
            have e2 : ((1 + q : Nat) : Int) = L[i].size := by omega
            rw [e1, e2]

/-- so many kids from place c on, which end at e -/
theorem kids_complete (L : List Nd) (e K : Nat) (f : Nat → Nat → Option (Nat × Bool)) (ok : Nat → Tr → Bool)
    (hf : ∀ k c t rest, ok k t = true → L.drop c = flat t ++ rest → c + (flat t).length ≤ e → (k + 1 = K → c + (flat t).length = e) → f k c = none) :
    ∀ (ks : List Tr) (k c : Nat) (rest : List Nd), k + ks.length = K → L.drop c = flatAll ks ++ rest → c + (flatAll ks).length = e → okAll ok k ks = true → preP L e ks.length c = false ∧ kidsP f L ks.length k c = none := by
  intro ks
  induction ks with
  | nil => intro k c rest _ _ _ _; exact ⟨rfl, rfl⟩
  | cons t ks ih =>
    intro k c rest hk hd hl hok
    rw [okAll, Bool.and_eq_true] at hok
    rw [flatAll_cons] at hd hl
    rw [List.length_append] at hl
    rw [List.append_assoc] at hd
    have hp := flat_pos t
    have hcl : c < L.length := by
      rcases Nat.lt_or_ge c L.length with h | h
      · exact h
      · rw [List.drop_of_length_le h] at hd
        have := congrArg List.length hd
        simp at this
        omega
    have hsz : L[c].size = ((flat t).length : Int) := by
      obtain ⟨r, hr⟩ := flat_head t
      have h1 := hd
      rw [List.drop_eq_getElem_cons hcl, hr, List.cons_append] at h1
      injection h1 with h1 _
      rw [h1]
    have hdn : L.drop (c + (flat t).length) = flatAll ks ++ rest := by
      rw [← List.drop_drop, hd, List.drop_left]
    have hn : f k c = none := hf k c t _ hok.1 hd (by omega) (fun hkk => by
      have h0 : ks.length = 0 := by simp at hk; omega
      rw [List.eq_nil_of_length_eq_zero h0, flatAll_nil] at hl
      simpa using hl)
    have hih := ih (k + 1) (c + (flat t).length) rest (by simp at hk; omega) hdn (by omega) hok.2
    have hq : c + L[c].size.toNat = c + (flat t).length := by rw [hsz]; omega
    rw [List.length_cons, preP_next (by omega) hcl (by rw [hsz]; omega), kidsP_none hn hcl, hq]
    exact hih

/-- In a tree laid flat nothing is amiss. -/
theorem look_complete (L : List Nd) : ∀ (d i e : Nat) (word last : Bool) (t : Tr) (rest : List Nd), okT d word t = true → L.drop i = flat t ++ rest → i + (flat t).length ≤ e → (last = true → i + (flat t).length = e) → lookP L d i e word last = none := by
  intro d
  induction d with
  | zero => intro i e word last t rest h _ _ _; rw [okT] at h; cases h
  | succ d ih =>
    intro i e word last t rest h hd hl hlast
    cases t with
    | mk kd n s ks =>
    rw [okT] at h
    simp only [Bool.and_eq_true] at h
    obtain ⟨⟨⟨h1, h2⟩, h3⟩, h4⟩ := h
    rw [flat_mk] at hd hl hlast
    rw [List.length_cons] at hl hlast
    rw [List.cons_append] at hd
    have hcl : i < L.length := by
      rcases Nat.lt_or_ge i L.length with h | h
      · exact h
      · rw [List.drop_of_length_le h] at hd; cases hd
    have hd1 := hd
    rw [List.drop_eq_getElem_cons hcl] at hd1
    injection hd1 with hx hr
    have hx' := List.getElem?_eq_getElem hcl
    rw [hx] at hx'
    have hb : headBad ⟨kd, n, ks.length, ((1 + (flatAll ks).length : Nat) : Int), s⟩ ((e : Int) - i) word last = false := by
      unfold headBad
      simp only [Bool.or_eq_false_iff, Bool.not_eq_false', decide_eq_false_iff_not, Bool.and_eq_false_iff, bne_eq_false_iff_eq]
      refine ⟨⟨⟨⟨⟨h1, h2⟩, h3⟩, by omega⟩, by omega⟩, ?_⟩
      cases last with
      | false => exact .inl rfl
      | true => have := hlast rfl; exact .inr (by omega)
    have hq : i + ((1 + (flatAll ks).length : Nat) : Int).toNat = i + 1 + (flatAll ks).length := by omega
    have hkk : ((ks.length : Nat) : Int).toNat = ks.length := by omega
    obtain ⟨c1, c2⟩ := kids_complete L (i + 1 + (flatAll ks).length) ks.length (fun k c => lookP L d c (i + 1 + (flatAll ks).length) (takesB kd ks.length k) (decide ((k : Int) = (ks.length : Int) - 1))) (fun k t => okT d (takesB kd ks.length k) t)
      (fun k c t rest h5 h6 h7 h8 => ih c _ _ _ t rest h5 h6 h7 (fun h9 => h8 (by simp only [decide_eq_true_eq] at h9; omega))) ks 0 (i + 1) rest (by simp) hr rfl h4
    rw [lookP_kids hx' hb (by simp only; intro hh; have h5 : ks = [] := List.eq_nil_of_length_eq_zero (by omega); rw [h5, flatAll_nil] at hh; simp at hh) (by simp only [hq, hkk]; exact c1)]
    simp only [hq, hkk]
    exact c2

theorem flat_size (kd n : Int) (s : List UInt8) (ks : List Tr) : (flat (.mk kd n s ks)).length = 1 + (flatAll ks).length := by rw [flat_mk, List.length_cons]; omega

/-- A program: a list of nodes of which nothing is amiss. -/
theorem check_tree (L : List Nd) (hL : L.length ≠ 0) : checkP L = none ↔ ∃ t, okT 30 false t = true ∧ flat t = L := by
  unfold checkP
  constructor
  · intro h
    have hi : 0 < L.length := by omega
    obtain ⟨t, h1, h2⟩ := look_sound L 30 0 L.length false true hi (Nat.le_refl _) h
    have hf := lookP_fits hi h
    have h3 := hf.2.2 rfl
    rw [show L[0].size.toNat = L.length by omega] at h2
    exact ⟨t, h1, by rw [h2]; simp⟩
  · rintro ⟨t, h1, h2⟩
    exact look_complete L 30 0 L.length false true t [] h1 (by simp [h2]) (by rw [h2]; omega) (fun _ => by rw [h2]; omega)

theorem kidsGo_flat (L : List Nd) : ∀ (ks : List Tr) (c e : Nat) (rest : List Nd), L.drop c = flatAll ks ++ rest → c + (flatAll ks).length ≤ e → kidsGo L e ks.length c = ks.map flat := by
  intro ks
  induction ks with
  | nil => intro c e rest _ _; rfl
  | cons t ks ih =>
    intro c e rest hd hl
    rw [flatAll_cons] at hd hl
    rw [List.length_append] at hl
    rw [List.append_assoc] at hd
    have hp := flat_pos t
    have hcl : c < L.length := by
      rcases Nat.lt_or_ge c L.length with h | h
      · exact h
      · rw [List.drop_of_length_le h] at hd
        have := congrArg List.length hd
        simp at this
        omega
    have hsz : L[c].size = ((flat t).length : Int) := by
      obtain ⟨r, hr⟩ := flat_head t
      have h1 := hd
      rw [List.drop_eq_getElem_cons hcl, hr, List.cons_append] at h1
      injection h1 with h1 _
      rw [h1]
    have hdn : L.drop (c + (flat t).length) = flatAll ks ++ rest := by
      rw [← List.drop_drop, hd, List.drop_left]
    have hq : L[c].size.toNat = (flat t).length := by rw [hsz]; omega
    rw [List.length_cons, kidsGo_some hcl (by omega) (by rw [hsz]; omega) (by rw [hsz]; omega), hq, ih (c + (flat t).length) e rest hdn (by omega), hd, List.take_left]
    rfl
/-- The children of a tree laid flat. -/
theorem kidsL_flat (kd n : Int) (s : List UInt8) (ks : List Tr) : kidsL (flat (.mk kd n s ks)) = ks.map flat := by
  rw [flat_mk, kidsL]
  simp only
  rw [show ((ks.length : Nat) : Int).toNat = ks.length by omega]
  refine kidsGo_flat _ ks 1 _ [] (by simp) ?_
  rw [List.length_cons]
  omega
theorem kidsL_tree (t : Tr) : kidsL (flat t) = t.kids.map flat := by
  cases t with
  | mk kd n s ks => exact kidsL_flat kd n s ks
theorem flat_inj : ∀ (N : Nat) (t t' : Tr), (flat t).length ≤ N → flat t = flat t' → t = t' := by
  intro N
  induction N with
  | zero => intro t t' h _; have := flat_pos t; omega
  | succ N ih =>
    intro t t' h he
    have hk := congrArg kidsL he
    rw [kidsL_tree, kidsL_tree] at hk
    have h0 : (flat t)[0]'(flat_pos t) = (flat t')[0]'(flat_pos t') := by simp only [he]
    rw [flat_get0, flat_get0] at h0
    cases t with
    | mk kd n s ks =>
    cases t' with
    | mk kd' n' s' ks' =>
    simp only [Nd.mk.injEq, Tr.kind, Tr.num, Tr.str, Tr.kids] at h0 hk
    obtain ⟨h1, h2, _, _, h5⟩ := h0
    subst h1 h2 h5
    rw [flat_size] at h
    have : ∀ (a b : List Tr), (flatAll a).length ≤ N → a.map flat = b.map flat → a = b := by
      intro a
      induction a with
      | nil => intro b _ hb; cases b with | nil => rfl | cons _ _ => cases hb
      | cons x a iha =>
        intro b hl hb
        cases b with
        | nil => cases hb
        | cons y b =>
          rw [flatAll_cons, List.length_append] at hl
          rw [List.map_cons, List.map_cons] at hb
          injection hb with hb1 hb2
          rw [ih x y (by omega) hb1, iha b (by omega) hb2]
    rw [this ks ks' (by omega) hk]
theorem flatAll_take_le (ks : List Tr) (k : Nat) : (flatAll (ks.take k)).length ≤ (flatAll ks).length := by
  have h : flatAll ks = flatAll (ks.take k) ++ flatAll (ks.drop k) := by rw [← flatAll_append, List.take_append_drop]
  rw [h, List.length_append]; omega
theorem flatAll_mem_le (ks : List Tr) (k : Nat) (h : k < ks.length) : (flat ks[k]).length ≤ (flatAll ks).length := by
  have h1 := flatAll_take_le ks (k + 1)
  rw [List.take_succ_eq_append_getElem h, flatAll_append, flatAll_cons, flatAll_nil, List.append_nil, List.length_append] at h1
  omega
theorem len_flatAll (ks : List Tr) : ks.length ≤ (flatAll ks).length := by
  induction ks with
  | nil => exact Nat.le_refl _
  | cons t ks ih => have := flat_pos t; rw [flatAll_cons, List.length_append, List.length_cons]; omega
theorem flat_kids_le (t : Tr) : (flatAll t.kids).length + 1 = (flat t).length := by
  cases t; rw [flat_size]; simp only [Tr.kids]; omega
end Go.Proofs.YtpogngdddendiaaDoor

/- A region that draws its order, whose operations make memory of their own, and whose calls do: one walk in the order of the text serves every order, where each operation's fact leans on those alone that it waits for. No condition. -/
set_option linter.unusedVariables false
set_option linter.unusedSimpArgs false
namespace Go.Proofs.YtpogngdddendiaaDoor
open Go.RowKit

/-- What is known of an operation's value: whatever the world; and in a world, and in each that R reaches from it. -/
structure TTR (R : World → World → Prop) where
  pu : Value → Prop
  ne : ∃ v, pu v
  ho : Value → World → Prop
  st : ∀ v x x', ho v x → R x x' → ho v x'
/-- All that was there stands as it stood. -/
abbrev BelR (x x' : World) : Prop := Below x.heap.size x x'
abbrev TT := TTR BelR

/-- It is this value. -/
def eqT {R : World → World → Prop} (c : Value) : TTR R := ⟨fun v => v = c, ⟨c, rfl⟩, fun _ _ => True, fun _ _ _ _ _ => trivial⟩

section
variable {R : World → World → Prop} (P : Program) (ops : Array Oper) (w0 : World) (Tall : List (TTR R))

def depsHold (o : Oper) (vs : List Value) (x : World) : Prop :=
  ∀ e ∈ o.after.toList, Region.binds .any e = true → ∀ (T : TTR R) (v : Value), Tall[e.on]? = some T → vs[e.on]? = some v → T.ho v x

def opGoal (T : TTR R) (o : Oper) (vs : List Value) (a : Act) : Prop :=
  if Region.wanted o (yielded ops a.tmps) = true then
    ∀ x, R w0 x → depsHold Tall o vs x → ∀ K : Act → World → Prop, (∀ v x', T.pu v → T.ho v x' → R x x' → K (a.put o.dst v) x') → o.wp P a x K (fun _ _ _ => False)
  else T.pu undef ∧ ∀ x, T.ho undef x

def RelGo (Q : Act → World → Prop) : List Oper → List (TTR R) → List Value → Act → Prop
  | o :: l, T :: Ts, vs, a => opGoal P ops w0 Tall T o vs a ∧ ∀ v, T.pu v → RelGo Q l Ts (vs ++ [v]) (a.put o.dst v)
  | [], _, vs, a => ∀ x, R w0 x → (∀ (i : Nat) (T : TTR R) (v : Value), Tall[i]? = some T → vs[i]? = some v → T.ho v x) → Q a x
  | _ :: _, [], _, _ => False
end

/-- The order of the text is one that the edges allow; no two operations write one slot; who reads a slot that another writes waits for it, or is waited for. -/
def relB (ops : Array Oper) : Bool :=
  Region.noSelect ops &&
  (List.range ops.size).all fun j => match ops[j]? with
    | none => true
    | some o =>
      (o.after.all fun e => !Region.binds .any e || decide (e.on < j)) &&
      (List.range ops.size).all fun i => match ops[i]? with
        | none => true
        | some q => i == j || match q.dst with
          | none => true
          | some d => (o.dst != some d) &&
            (!(o.looksAt ops).contains d || (if i < j then o.after.any (fun e => Region.binds .any e && e.on == i) else q.after.any (fun e => Region.binds .any e && e.on == j)))

/-- The slots: what has been carried out holds its value, all else is as it was. -/
structure FrameIs (ops : Array Oper) (a0 a : Act) (S : Nat → Prop) (vs : Nat → Value) : Prop where
  size : a.tmps.size = a0.tmps.size
  defers : a.defers = a0.defers
  done : ∀ i o d, ops[i]? = some o → S i → o.dst = some d → d < a0.tmps.size → a.tmps[d]? = some (vs i)
  rest : ∀ t, (∀ i o, ops[i]? = some o → o.dst = some t → ¬ S i) → a.tmps[t]? = a0.tmps[t]?

def Distinct (ops : Array Oper) : Prop := ∀ (i j : Nat) (o q : Oper) (d : Tmp), ops[i]? = some o → ops[j]? = some q → o.dst = some d → q.dst = some d → i = j

theorem FrameIs.start {ops : Array Oper} {a0 : Act} {S : Nat → Prop} {vs : Nat → Value} (h : ∀ i o, ops[i]? = some o → ¬ S i) : FrameIs ops a0 a0 S vs :=
  ⟨rfl, rfl, fun i o d ho hs _ _ => absurd hs (h i o ho), fun _ _ => rfl⟩

theorem FrameIs.put {ops : Array Oper} {a0 a : Act} {S : Nat → Prop} {vs vs' : Nat → Value} (hd : Distinct ops) (h : FrameIs ops a0 a S vs) {j : Nat} {o : Oper} (hj : ops[j]? = some o) (v : Value) (hv : vs' j = v) (hvs : ∀ i, S i → i ≠ j → vs' i = vs i) :
    FrameIs ops a0 (a.put o.dst v) (fun i => S i ∨ i = j) vs' := by
  have hsz : (a.put o.dst v).tmps.size = a.tmps.size := by cases h : o.dst <;> simp [Act.put]
  have hdf : (a.put o.dst v).defers = a.defers := by cases h : o.dst <;> simp [Act.put]
  have hother : ∀ t, o.dst ≠ some t → (a.put o.dst v).tmps[t]? = a.tmps[t]? := by
    intro t ht
    cases h : o.dst with
    | none => rfl
    | some d =>
      have : d ≠ t := fun e => ht (by rw [h, e])
      simp [Act.put, this]
  have hsame : ∀ t, o.dst = some t → t < a.tmps.size → (a.put o.dst v).tmps[t]? = some v := by
    intro t ht hlt
    rw [ht]
    simp [Act.put, hlt]
  refine ⟨hsz.trans h.size, hdf.trans h.defers, ?_, ?_⟩
  · intro i q d hi hS hqd hlt
    by_cases hij : i = j
    · subst hij
      rw [hj] at hi
      injection hi with hi
      subst hi
      rw [hsame d hqd (by rw [h.size]; exact hlt), hv]
    · rw [hother d (fun e => hij (hd i j q o d hi hj hqd e)), h.done i q d hi (hS.resolve_right hij) hqd hlt, hvs i (hS.resolve_right hij) hij]
  · intro t ht
    rw [hother t (fun e => ht j o hj e (.inr rfl))]
    exact h.rest t (fun i q hi hq hS => ht i q hi hq (.inl hS))

theorem FrameIs.agree {ops : Array Oper} {a0 a b : Act} {S S' : Nat → Prop} {vs vs' : Nat → Value} (hd : Distinct ops) (h : FrameIs ops a0 a S vs) (h' : FrameIs ops a0 b S' vs') (t : Nat)
    (ht : ∀ i o, ops[i]? = some o → o.dst = some t → (S i ∧ S' i ∧ vs i = vs' i) ∨ (¬ S i ∧ ¬ S' i)) : a.tmps[t]? = b.tmps[t]? := by
  by_cases hex : ∃ i o, ops[i]? = some o ∧ o.dst = some t ∧ S i
  · obtain ⟨i, o, hi, ho, hS⟩ := hex
    rcases ht i o hi ho with ⟨_, hS', hv⟩ | ⟨hn, _⟩
    · by_cases hlt : t < a0.tmps.size
      · rw [h.done i o t hi hS ho hlt, h'.done i o t hi hS' ho hlt, hv]
      · rw [Array.getElem?_eq_none (by rw [h.size]; omega), Array.getElem?_eq_none (by rw [h'.size]; omega)]
    · exact absurd hS hn
  · have hn : ∀ i o, ops[i]? = some o → o.dst = some t → ¬ S i := fun i o hi ho hS => hex ⟨i, o, hi, ho, hS⟩
    rw [h.rest t hn, h'.rest t (fun i o hi ho hS' => ?_)]
    rcases ht i o hi ho with ⟨hS, _, _⟩ | ⟨_, hn'⟩
    · exact hn i o hi ho hS
    · exact hn' hS'

theorem eval_agree {a b : Act} {o : Oper} {ops : Array Oper} (hs : ∀ cs b, o.op ≠ .select cs b) (h : ∀ t ∈ o.looksAt ops, a.tmps[t]? = b.tmps[t]?) :
    execOp a.eval o = execOp b.eval o ∧ Region.wanted o (yielded ops a.tmps) = Region.wanted o (yielded ops b.tmps) := by
  constructor
  · refine execOp_congr o hs fun x hx => ?_
    cases x with
    | tmp t =>
      have := h t (List.mem_append_left _ (List.mem_filterMap.2 ⟨.tmp t, by simpa using hx, rfl⟩))
      show a.tmps.getD t undef = b.tmps.getD t undef
      rw [Array.getD_eq_getD_getElem?, Array.getD_eq_getD_getElem?, this]
    | const v => rfl
    | global g => rfl
    | func f => rfl
  · unfold Region.wanted
    cases hg : o.guard with
    | none => rfl
    | some gw =>
      obtain ⟨g, want⟩ := gw
      have hy : yielded ops a.tmps g = yielded ops b.tmps g := by
        unfold yielded
        cases hq : (ops[g]?).bind (·.dst) with
        | none => rfl
        | some d =>
          have := h d (List.mem_append_right _ (by simp [hg, hq]))
          simp only [Option.bind_some, this]
      simp only [hy]

/-- Same frame, same writes. -/
theorem put_same {a b : Act} (hs : a.tmps.size = b.tmps.size) {dst : Option Tmp} {v v' : Value} (h : b.put dst v = b.put dst v') : a.put dst v = a.put dst v' := by
  cases dst with
  | none => rfl
  | some d =>
    by_cases hd : d < b.tmps.size
    · have h1 := congrArg (fun c : Act => c.tmps[d]?) h
      simp [Act.put, hd] at h1
      rw [h1]
    · have hle : a.tmps.size ≤ d := by rw [hs]; exact Nat.le_of_not_lt hd
      have : ∀ u, a.put (some d) u = a := fun u => by
        simp only [Act.put]
        rw [Array.setIfInBounds_eq_of_size_le hle]
      rw [this, this]

/-- One operation, at a frame that agrees with the lexical one. -/
theorem upon_agree {R : World → World → Prop} {P : Program} {o : Oper} {a b : Act} {x : World} {T : TTR R} {K : Act → World → Prop} {Q : Exit → Act → World → Prop} (hs : a.tmps.size = b.tmps.size) (hdf : a.defers = b.defers)
    (he : execOp a.eval o = execOp b.eval o)
    (h : ∀ K : Act → World → Prop, (∀ v x', T.pu v → T.ho v x' → R x x' → K (b.put o.dst v) x') → o.wp P b x K (fun _ _ _ => False))
    (hK : ∀ v x', T.pu v → T.ho v x' → R x x' → K (a.put o.dst v) x') : o.wp P a x K Q := by
  have h1 := h (fun c x' => ∃ v, c = b.put o.dst v ∧ T.pu v ∧ T.ho v x' ∧ R x x') (fun v x' h1 h2 h3 => ⟨v, rfl, h1, h2, h3⟩)
  have key : ∀ v x', (∃ v', b.put o.dst v = b.put o.dst v' ∧ T.pu v' ∧ T.ho v' x' ∧ R x x') → K (a.put o.dst v) x' := by
    rintro v x' ⟨v', e, h1, h2, h3⟩
    rw [put_same hs e]
    exact hK v' x' h1 h2 h3
  unfold Oper.wp at h1 ⊢
  rw [he]
  generalize (execOp b.eval o).run P x = r at h1 ⊢
  cases r with
  | ok n w' =>
    cases n with
    | value v => exact key v w' h1
    | skip => exact key undef w' h1
    | defer d =>
      obtain ⟨v, e, _⟩ := h1
      exfalso
      have := congrArg (fun c : Act => c.defers.length) e
      cases hdst : o.dst <;> simp [Act.put, hdst] at this
    | enter f args =>
      refine Calls.mono h1 ?_
      intro e w'' h2
      cases e with
      | returned v => exact key v w'' h2
      | panicked c => exact h2.elim
      | outgrown => obtain ⟨_, _, h3⟩ := h2; exact h3.elim
    | row row args => exact Rows.mono h1 fun v w'' h2 => key v w'' h2
    | _ => exact h1.elim
  | halt hh w' =>
    cases hh with
    | panic v => exact h1.elim
    | _ => exact h1.elim

section
variable {R : World → World → Prop} {P : Program} {ops : Array Oper} {w0 : World} {Tall : List (TTR R)} {Q : Act → World → Prop}

/-- What the lexical walk says of its j-th operation, whatever the values ahead of it. -/
theorem relGo_at (hd : Distinct ops) (hlen : Tall.length = ops.size) : ∀ (l : List Oper) (Ts : List (TTR R)) (k : Nat) (vs : List Value) (a0 a : Act) (us : Nat → Value), (∀ j : Nat, l[j]? = ops[k + j]?) → (∀ j : Nat, Ts[j]? = Tall[k + j]?) → vs.length = k →
    (∀ i : Nat, i < k → vs[i]? = some (us i)) → FrameIs ops a0 a (fun i => i < k) us → (∀ (i : Nat) (T : TTR R), Tall[i]? = some T → T.pu (us i)) → RelGo P ops w0 Tall Q l Ts vs a →
    (∀ (j : Nat) (o : Oper) (T : TTR R), k ≤ j → ops[j]? = some o → Tall[j]? = some T → ∃ (vs' : List Value) (b : Act), (∀ i, i < j → vs'[i]? = some (us i)) ∧ FrameIs ops a0 b (fun i => i < j) us ∧ opGoal P ops w0 Tall T o vs' b) ∧
    ∃ (vs' : List Value) (b : Act), (∀ i, i < ops.size → vs'[i]? = some (us i)) ∧ FrameIs ops a0 b (fun i => i < ops.size) us ∧ ∀ x, R w0 x → (∀ (i : Nat) (T : TTR R) (v : Value), Tall[i]? = some T → vs'[i]? = some v → T.ho v x) → Q b x := by
  intro l
  induction l with
  | nil =>
    intro Ts k vs a0 a us hl hT hk hvs hf hpu h
    have hsz : ops.size ≤ k := by
      have := hl 0
      simp at this
      exact this
    refine ⟨fun j o T hj ho _ => ?_, vs, a, fun i hi => hvs i (by omega), ⟨hf.size, hf.defers, fun i o d ho hS => hf.done i o d ho (show i < k by have : i < ops.size := hS; omega), fun t ht => hf.rest t (fun i o ho hdst hS => ht i o ho hdst ((Array.getElem?_eq_some_iff.1 ho).1))⟩, h⟩
    have := (Array.getElem?_eq_some_iff.1 ho).1
    omega
  | cons o l ih =>
    intro Ts k vs a0 a us hl hT hk hvs hf hpu h
    have ho : ops[k]? = some o := by simpa using (hl 0).symm
    cases Ts with
    | nil => exact h.elim
    | cons T Ts =>
      have hTk : Tall[k]? = some T := by simpa using (hT 0).symm
      obtain ⟨h1, h2⟩ := h
      have hrec := ih Ts (k + 1) (vs ++ [us k]) a0 (a.put o.dst (us k)) us (fun j => by have := hl (j + 1); simpa [Nat.add_assoc, Nat.add_comm 1 j] using this) (fun j => by have := hT (j + 1); simpa [Nat.add_assoc, Nat.add_comm 1 j] using this) (by simp [hk])
        (fun i hi => by
          by_cases hik : i < k
          · rw [List.getElem?_append_left (by omega)]; exact hvs i hik
          · have : i = k := by omega
            subst this
            rw [List.getElem?_append_right (by omega), hk]; simp)
        (by
          have := hf.put hd ho (vs' := us) (us k) rfl (fun _ _ _ => rfl)
          exact ⟨this.size, this.defers, fun i q d hq hS => this.done i q d hq (by have hS' : i < k + 1 := hS; show i < k ∨ i = k; omega), fun t ht => this.rest t (fun i q hq hdst hS => ht i q hq hdst (by have hS' : i < k ∨ i = k := hS; show i < k + 1; omega))⟩)
        hpu (h2 (us k) (hpu k T hTk))
      refine ⟨fun j o' T' hj ho' hT' => ?_, hrec.2⟩
      by_cases hjk : j = k
      · subst hjk
        rw [ho] at ho'
        injection ho' with ho'
        subst ho'
        rw [hTk] at hT'
        injection hT' with hT'
        subst hT'
        exact ⟨vs, a, hvs, hf, h1⟩
      · exact hrec.1 j o' T' (by omega) ho' hT'
end

theorem relB_spec {ops : Array Oper} (h : relB ops = true) :
    (∀ (j : Nat) (o : Oper) cs b, ops[j]? = some o → o.op ≠ .select cs b) ∧ Distinct ops ∧ (∀ (j : Nat) (o : Oper), ops[j]? = some o → ∀ e ∈ o.after, Region.binds .any e = true → e.on < j) ∧
    ∀ (i j : Nat) (q o : Oper) (d : Tmp), ops[i]? = some q → ops[j]? = some o → i ≠ j → q.dst = some d → d ∈ o.looksAt ops →
      (i < j ∧ ∃ e ∈ o.after, Region.binds .any e = true ∧ e.on = i) ∨ (j < i ∧ ∃ e ∈ q.after, Region.binds .any e = true ∧ e.on = j) := by
  simp only [relB, Bool.and_eq_true, List.all_eq_true, List.mem_range] at h
  obtain ⟨h1, h2⟩ := h
  have key : ∀ (i j : Nat) (q o : Oper) (d : Tmp), ops[i]? = some q → ops[j]? = some o → i ≠ j → q.dst = some d → o.dst ≠ some d ∧ (d ∈ o.looksAt ops → if i < j then o.after.any (fun e => Region.binds .any e && e.on == i) = true else q.after.any (fun e => Region.binds .any e && e.on == j) = true) := by
    intro i j q o d hi hj hne hd
    have h3 := h2 j (Array.getElem?_eq_some_iff.1 hj).1
    simp only [hj, Bool.and_eq_true, List.all_eq_true, List.mem_range] at h3
    have h4 := h3.2 i (Array.getElem?_eq_some_iff.1 hi).1
    simp only [hi, hd, Bool.or_eq_true, beq_iff_eq, Bool.and_eq_true, bne_iff_ne, ne_eq, Bool.not_eq_true'] at h4
    rcases h4 with h4 | ⟨h5, h6⟩
    · exact absurd h4 hne
    · refine ⟨h5, fun hm => ?_⟩
      rcases h6 with h6 | h6
      · exfalso
        have : (o.looksAt ops).contains d = true := by simpa using hm
        rw [h6] at this; cases this
      · split
        · rename_i hlt; simpa [hlt] using h6
        · rename_i hlt; simpa [hlt] using h6
  refine ⟨fun j o cs b ho => Region.noSelect_spec h1 j o cs b ho, ?_, ?_, ?_⟩
  · intro i j o q d hi hj ho hq
    rcases Nat.decEq i j with hne | heq
    · exact absurd hq (key i j o q d hi hj hne ho).1
    · exact heq
  · intro j o hj e he hb
    have h3 := h2 j (Array.getElem?_eq_some_iff.1 hj).1
    simp only [hj, Bool.and_eq_true] at h3
    have h4 := Array.all_eq_true_iff_forall_mem.1 h3.1 e he
    simpa [hb] using h4
  · intro i j q o d hi hj hne hd hm
    have h3 := (key i j q o d hi hj hne hd).2 hm
    split at h3
    · rename_i hlt
      obtain ⟨e, he, hb⟩ := Array.any_eq_true'.1 h3
      simp only [Bool.and_eq_true, beq_iff_eq] at hb
      exact .inl ⟨hlt, e, he, hb.1, hb.2⟩
    · rename_i hlt
      obtain ⟨e, he, hb⟩ := Array.any_eq_true'.1 h3
      simp only [Bool.and_eq_true, beq_iff_eq] at hb
      exact .inr ⟨by omega, e, he, hb.1, hb.2⟩

theorem frame_eq {ops : Array Oper} {a0 a b : Act} {S S' : Nat → Prop} {us : Nat → Value} (hd : Distinct ops) (h : FrameIs ops a0 a S us) (h' : FrameIs ops a0 b S' us) (hS : ∀ i o, ops[i]? = some o → S i ∧ S' i) : a = b := by
  have ht : a.tmps = b.tmps := by
    apply Array.ext_getElem?
    intro t
    exact h.agree hd h' t (fun i o hi _ => .inl ⟨(hS i o hi).1, (hS i o hi).2, rfl⟩)
  have hdf : a.defers = b.defers := h.defers.trans h'.defers.symm
  cases a; cases b
  simp only at ht hdf
  rw [ht, hdf]

theorem wp_region_relR {R : World → World → Prop} (hrefl : ∀ x, R x x) (htrans : ∀ {x y z}, R x y → R y z → R x z) {P : Program} {id : Nat} {Q : Exit → Act → World → Prop} {a : Act} {w : World} {l : List Oper} (hdrew : R w { w with drawn := w.drawn + 1 }) (Ts : List (TTR R)) (hm : P.follows .mixedOrders = true) (hB : relB l.toArray = true) (hlen : Ts.length = l.length)
    (h : RelGo P l.toArray w Ts (fun a' x => Q .normal a' x) l Ts [] a) : (Code.region id l.toArray true).wp P Q a w := by
  obtain ⟨hsel, hd, hedge, hlook⟩ := relB_spec hB
  have hTlen : Ts.length = l.toArray.size := by simpa using hlen
  generalize hops : l.toArray = ops at *
  have hl : ∀ j : Nat, l[j]? = ops[0 + j]? := fun j => by rw [← hops]; simp
  have hpu0 : ∃ us : Nat → Value, ∀ (i : Nat) (T : TTR R), Ts[i]? = some T → T.pu (us i) := by
    refine ⟨fun i => match Ts[i]? with | some T => Classical.choose T.ne | none => undef, fun i T hT => ?_⟩
    simp only [hT]
    exact Classical.choose_spec T.ne
  obtain ⟨us0, hus0⟩ := hpu0
  refine wp_region_any hm ?_
  suffices H : ∀ (fuel : Nat) (listed : Array Bool) (a' : Act) (x : World) (us : Nat → Value), listed.size = ops.size → listed.toList.count false = fuel → R w x →
      FrameIs ops a a' (fun i => listed[i]? = some true) us → (∀ (i : Nat) (T : TTR R), Ts[i]? = some T → T.pu (us i)) → (∀ (i : Nat) (T : TTR R), Ts[i]? = some T → listed[i]? = some true → T.ho (us i) x) →
      (∀ (k : Nat) (q : Oper), ops[k]? = some q → listed[k]? = some true → ∀ e ∈ q.after, Region.binds .any e = true → listed[e.on]? = some true) → wpAny P .any ops Q fuel listed a' x by
    refine H ops.size _ _ _ us0 (by simp) (by simp) hdrew (FrameIs.start fun i o hi => by
      have := (Array.getElem?_eq_some_iff.1 hi).1
      simp [this]) hus0 ?_ ?_
    · intro i T _ hi; simp [Array.getElem?_replicate] at hi
    · intro k q _ hi; simp [Array.getElem?_replicate] at hi
  intro fuel
  induction fuel with
  | zero =>
    intro listed a' x us hsz hcnt hbel hf hpu hho hcl
    have hall : ∀ i, i < ops.size → listed[i]? = some true := by
      intro i hi
      have hi' : i < listed.toList.length := by simp; omega
      have hmem : listed.toList[i] ∈ listed.toList := List.getElem_mem _
      have hne : listed.toList[i] ≠ false := fun e => by
        rw [e] at hmem
        have := List.count_pos_iff.2 hmem
        omega
      have : listed.toList[i] = true := by simpa using hne
      rw [Array.getElem?_eq_getElem (by omega)]
      simpa using this
    refine ⟨?_, ?_⟩
    · rw [List.eq_nil_iff_forall_not_mem]
      intro j hj
      obtain ⟨h0, o, ho, _⟩ := mem_ready.1 hj
      have hj' := hall j (Array.getElem?_eq_some_iff.1 ho).1
      rw [Array.getD_eq_getD_getElem?, hj'] at h0
      cases h0
    · obtain ⟨_, vs', b, hvs, hfb, hq⟩ := relGo_at hd hTlen l Ts 0 [] a a us hl (fun j => by simp) rfl (fun i hi => by omega) (FrameIs.start fun i o _ => Nat.not_lt_zero i) hpu h
      have hab : a' = b := frame_eq hd hf hfb fun i o hi => ⟨hall i (Array.getElem?_eq_some_iff.1 hi).1, (Array.getElem?_eq_some_iff.1 hi).1⟩
      rw [hab]
      refine hq x hbel fun i T v hT hv => ?_
      have hi : i < ops.size := by rw [← hTlen]; exact (List.getElem?_eq_some_iff.1 hT).1
      rw [hvs i hi] at hv
      injection hv with hv
      rw [← hv]
      exact hho i T hT (hall i hi)
  | succ fuel ih =>
    intro listed a' x us hsz hcnt hbel hf hpu hho hcl
    refine ⟨fun hr => ?_, fun i hi => ?_⟩
    · exfalso
      have hex : ∃ n, n < ops.size ∧ listed[n]? ≠ some true := by
        have hmem : false ∈ listed.toList := List.count_pos_iff.1 (by omega)
        obtain ⟨n, hn, hnv⟩ := List.mem_iff_getElem.1 hmem
        refine ⟨n, by simp at hn; omega, ?_⟩
        rw [Array.getElem?_eq_getElem (by simpa using hn)]
        simp at hnv
        simp [hnv]
      obtain ⟨n, ⟨hn, hnl⟩, hmin⟩ := exists_least hex
      have hon : ∃ o, ops[n]? = some o := ⟨ops[n], Array.getElem?_eq_getElem hn⟩
      obtain ⟨o, ho⟩ := hon
      have hmr : n ∈ Region.ready .any ops listed := by
        refine mem_ready.2 ⟨?_, o, ho, fun e he hb => ?_⟩
        · rw [Array.getD_eq_getD_getElem?, Array.getElem?_eq_getElem (by omega)] 
          rw [Array.getElem?_eq_getElem (by omega)] at hnl
          simpa using hnl
        · have hlt := hedge n o ho e he hb
          have : listed[e.on]? = some true := by
            rcases Classical.em (listed[e.on]? = some true) with h1 | h1
            · exact h1
            · have := hmin e.on ⟨by omega, h1⟩; omega
          rw [Array.getD_eq_getD_getElem?, this]; rfl
      rw [hr] at hmr
      cases hmr
    · obtain ⟨h0, o, ho, hall⟩ := mem_ready.1 hi
      have hin : i < ops.size := (Array.getElem?_eq_some_iff.1 ho).1
      have hil : listed[i]? = some false := by
        rw [Array.getD_eq_getD_getElem?, Array.getElem?_eq_getElem (by omega)] at h0
        rw [Array.getElem?_eq_getElem (by omega)]
        simpa using h0
      have hpred : ∀ e ∈ o.after, Region.binds .any e = true → listed[e.on]? = some true := fun e he hb => by
        have h1 := hall e he hb
        have hlt := hedge i o ho e he hb
        rw [Array.getD_eq_getD_getElem?, Array.getElem?_eq_getElem (by omega)] at h1
        rw [Array.getElem?_eq_getElem (by omega)]
        simpa using h1
      obtain ⟨T, hT⟩ : ∃ T, Ts[i]? = some T := ⟨Ts[i]'(by omega), List.getElem?_eq_getElem (by omega)⟩
      obtain ⟨vs', b, hvs, hfb, hop⟩ := (relGo_at hd hTlen l Ts 0 [] a a us hl (fun j => by simp) rfl (fun i hi => by omega) (FrameIs.start fun i o _ => Nat.not_lt_zero i) hpu h).1 i o T (Nat.zero_le _) ho hT
      have hag := eval_agree (a := a') (b := b) (ops := ops) (fun cs b => hsel i o cs b ho) (fun t ht => by
        refine hf.agree hd hfb t fun k q hk hq => ?_
        by_cases hki : k = i
        · subst hki
          exact .inr ⟨(fun e => (by rw [hil] at e; cases e)), Nat.lt_irrefl _⟩
        · rcases hlook k i q o t hk ho hki hq ht with ⟨hlt, e, he, hb, hon⟩ | ⟨hlt, e, he, hb, hon⟩
          · exact .inl ⟨hon ▸ hpred e he hb, hlt, rfl⟩
          · exact .inr ⟨(fun hS => (by
              have := hcl k q hk hS e he hb
              rw [hon, hil] at this; cases this)), by omega⟩)
      have next : ∀ v x', T.pu v → T.ho v x' → R x x' → wpAny P .any ops Q fuel (listed.setIfInBounds i true) (a'.put o.dst v) x' := by
        intro v x' hpv hhv hbx
        refine ih _ _ _ (fun k => if k = i then v else us k) (by simpa using hsz) ?_ (htrans hbel hbx) ?_ ?_ ?_ ?_
        · have hil' : listed.toList[i]'(by simp; omega) = false := by
            rw [Array.getElem?_eq_getElem (by omega)] at hil
            simpa using hil
          rw [Array.toList_setIfInBounds, List.count_set (by simp; omega), hil', hcnt]
          simp
        · have := hf.put hd ho (vs' := fun k => if k = i then v else us k) v (by simp) (fun k _ hk => by simp [hk])
          refine ⟨this.size, this.defers, fun k q d hk hS => this.done k q d hk ?_, fun t ht => this.rest t fun k q hk hq hS => ht k q hk hq ?_⟩
          · by_cases hki : k = i
            · exact .inr hki
            · rw [Array.getElem?_setIfInBounds_ne (by omega)] at hS; exact .inl hS
          · rcases hS with hS | rfl
            · by_cases hki : k = i
              · subst hki; rw [hil] at hS; cases hS
              · rw [Array.getElem?_setIfInBounds_ne (by omega)]; exact hS
            · rw [Array.getElem?_setIfInBounds_self_of_lt (by omega)]
        · intro k T' hT'
          by_cases hki : k = i
          · subst hki
            rw [hT] at hT'; injection hT' with hT'; subst hT'
            simpa using hpv
          · simpa [hki] using hpu k T' hT'
        · intro k T' hT' hS
          by_cases hki : k = i
          · subst hki
            rw [hT] at hT'; injection hT' with hT'; subst hT'
            simpa using hhv
          · rw [Array.getElem?_setIfInBounds_ne (by omega)] at hS
            simp only [hki, if_false]
            exact T'.st _ _ _ (hho k T' hT' hS) hbx
        · intro k q hk hS e he hb
          by_cases hki : k = i
          · subst hki
            rw [ho] at hk; injection hk with hk; subst hk
            have hlt := hedge k o ho e he hb
            rw [Array.getElem?_setIfInBounds_ne (by omega)]
            exact hpred e he hb
          · rw [Array.getElem?_setIfInBounds_ne (by omega)] at hS
            have := hcl k q hk hS e he hb
            by_cases hei : e.on = i
            · rw [hei, hil] at this; cases this
            · rw [Array.getElem?_setIfInBounds_ne (by omega)]; exact this
      unfold wpOp
      simp only [ho]
      unfold opGoal at hop
      rw [hag.2]
      split
      · rename_i hw
        rw [if_pos hw] at hop
        refine .inl (upon_agree (hf.size.trans hfb.size.symm) (hf.defers.trans hfb.defers.symm) hag.1 (hop x hbel ?_) next)
        intro e he hb T' v hT' hv
        have hlt := hedge i o ho e (by simpa using he) hb
        rw [hvs e.on hlt] at hv
        injection hv with hv
        rw [← hv]
        exact hho e.on T' hT' (hpred e (by simpa using he) hb)
      · rename_i hw
        rw [if_neg hw] at hop
        exact next undef x hop.1 (hop.2 x) (hrefl _)
theorem wp_region_rel {P : Program} {id : Nat} {Q : Exit → Act → World → Prop} {a : Act} {w : World} {l : List Oper} (Ts : List TT) (hm : P.follows .mixedOrders = true) (hB : relB l.toArray = true) (hlen : Ts.length = l.length)
    (h : RelGo P l.toArray w Ts (fun a' x => Q .normal a' x) l Ts [] a) : (Code.region id l.toArray true).wp P Q a w :=
  wp_region_relR (R := BelR) (fun _ => Below.refl _ _) (fun h1 h2 => h1.trans (h2.mono h1.size)) ((Below.refl _ _).drew) Ts hm hB hlen h
theorem not_true {b : Bool} (h : b = false) : ¬ b = true := by rw [h]; exact Bool.noConfusion
section
variable (P : Program) (ops : Array Oper) (w0 : World)
/-- Each operation has one value, whatever the world behind w0. -/
def EqGo (Q : Act → World → Prop) : List Oper → Act → Prop
  | o :: l, a => ∃ c : Value, (if Region.wanted o (yielded ops a.tmps) = true then ∀ (x : Later w0) (K : Act → World → Prop), (∀ y : Later w0, Below x.val.heap.size x.val y.val → K (a.put o.dst c) y.val) → o.wp P a x.val K (fun _ _ _ => False) else c = undef) ∧ EqGo Q l (a.put o.dst c)
  | [], a => ∀ x : Later w0, Q a x.val
end
section
variable {P : Program} {ops : Array Oper} {w0 : World} {Q : Act → World → Prop} {o : Oper} {l : List Oper} {a : Act}
theorem EqGo.rel : ∀ (l : List Oper) (a : Act), EqGo P ops w0 Q l a → ∃ Ts : List TT, Ts.length = l.length ∧ ∀ Tall vs, RelGo P ops w0 Tall Q l Ts vs a
  | [], a, h => ⟨[], rfl, fun Tall vs x hb _ => h ⟨x, hb⟩⟩
  | o :: l, a, ⟨c, h1, h2⟩ => by
    obtain ⟨Ts, hl, hr⟩ := EqGo.rel l _ h2
    refine ⟨eqT c :: Ts, by simp [hl], fun Tall vs => ⟨?_, ?_⟩⟩
    · unfold opGoal
      split
      · rename_i hw
        rw [if_pos hw] at h1
        intro x hb _ K hk
        exact h1 ⟨x, hb⟩ K fun y hy => hk c y.val rfl trivial hy
      · rename_i hw
        rw [if_neg hw] at h1
        exact ⟨h1.symm, fun _ => trivial⟩
    · rintro v rfl
      exact hr Tall _
theorem EqGo.run {c : Value} (hw : Region.wanted o (yielded ops a.tmps) = true) (h1 : ∀ (x : Later w0) (K : Act → World → Prop), (∀ y : Later w0, Below x.val.heap.size x.val y.val → K (a.put o.dst c) y.val) → o.wp P a x.val K (fun _ _ _ => False)) (h2 : EqGo P ops w0 Q l (a.put o.dst c)) : EqGo P ops w0 Q (o :: l) a :=
  ⟨c, by rw [if_pos hw]; exact h1, h2⟩
theorem EqGo.skip (hw : Region.wanted o (yielded ops a.tmps) = false) (h2 : EqGo P ops w0 Q l (a.put o.dst undef)) : EqGo P ops w0 Q (o :: l) a :=
  ⟨undef, by rw [if_neg (not_true hw)], h2⟩
end
theorem wp_region_eq {P : Program} {id : Nat} {Q : Exit → Act → World → Prop} {a : Act} {w : World} {l : List Oper} (hm : P.follows .mixedOrders = true) (hB : relB l.toArray = true)
    (h : EqGo P l.toArray w (fun a' x => Q .normal a' x) l a) : (Code.region id l.toArray true).wp P Q a w := by
  obtain ⟨Ts, hl, hr⟩ := h.rel
  exact wp_region_rel Ts hm hB hl (hr Ts [])
end Go.Proofs.YtpogngdddendiaaDoor
