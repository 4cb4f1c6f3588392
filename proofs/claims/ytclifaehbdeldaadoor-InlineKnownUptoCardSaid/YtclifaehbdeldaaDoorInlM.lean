/- Calls made frames, on trees (chapter 19), with no program in sight. No condition. -/
import Derived.Test.YtclifaehbdeldaaDoorTree
import Derived.Test.YtclifaehbdeldaaDoorCoreL
set_option linter.unusedVariables false
set_option linter.unusedSimpArgs false
namespace Go.Proofs.YtclifaehbdeldaaDoor

/-- What a name's function does. -/
abbrev Body := List UInt8 → Option Tr
/-- A call of a text of which the command is known. -/
def hitI (B : Body) (kd : Int) (ks : List Tr) : Option (Tr × List Tr) := match ks with
  | [] => none
  | k :: rest => if kd == 21 && k.kind == 1 then (B k.str).map fun b => (b, rest) else none
def endI (B : Body) (d : Nat) (kd n : Int) (s : List UInt8) (r : List Tr × Nat) : Tr × Nat := match hitI B kd r.1 with
  | some (b, rest) => if (flat b).length ≤ 24 ∧ r.2 + ((flat b).length - 1) ≤ 1000 ∧ d + depthT b ≤ 30 then (.mk 37 0 [] (rest ++ [b]), r.2 + ((flat b).length - 1)) else (.mk kd n s r.1, r.2)
  | none => (.mk kd n s r.1, r.2)
mutual
def inlT (B : Body) : Nat → Tr → Nat → Tr × Nat
  | d, .mk kd n s ks, sz => endI B d kd n s (inlTs B (d + 1) ks sz)
def inlTs (B : Body) : Nat → List Tr → Nat → List Tr × Nat
  | _, [], sz => ([], sz)
  | d, t :: ts, sz => ((inlT B d t sz).1 :: (inlTs B d ts (inlT B d t sz).2).1, (inlTs B d ts (inlT B d t sz).2).2)
end
theorem inlT_mk (B : Body) (d : Nat) (kd n : Int) (s : List UInt8) (ks : List Tr) (sz : Nat) : inlT B d (.mk kd n s ks) sz = endI B d kd n s (inlTs B (d + 1) ks sz) := by rw [inlT]
theorem inlTs_nil (B : Body) (d sz : Nat) : inlTs B d [] sz = ([], sz) := by rw [inlTs]
theorem inlTs_cons (B : Body) (d : Nat) (t : Tr) (ts : List Tr) (sz : Nat) : inlTs B d (t :: ts) sz = ((inlT B d t sz).1 :: (inlTs B d ts (inlT B d t sz).2).1, (inlTs B d ts (inlT B d t sz).2).2) := by rw [inlTs]
theorem inlTs_len (B : Body) (d : Nat) : ∀ (ts : List Tr) (sz : Nat), (inlTs B d ts sz).1.length = ts.length
  | [], sz => by rw [inlTs_nil]
  | t :: ts, sz => by rw [inlTs_cons, List.length_cons, List.length_cons, inlTs_len B d ts]
theorem inlTs_snoc (B : Body) (d : Nat) : ∀ (ts : List Tr) (t : Tr) (sz : Nat), inlTs B d (ts ++ [t]) sz = ((inlTs B d ts sz).1 ++ [(inlT B d t (inlTs B d ts sz).2).1], (inlT B d t (inlTs B d ts sz).2).2)
  | [], t, sz => by rw [List.nil_append, inlTs_cons, inlTs_nil, inlTs_nil]; rfl
  | u :: ts, t, sz => by rw [List.cons_append, inlTs_cons, inlTs_cons, inlTs_snoc B d ts t]; rfl
/-- What it may grow to. -/
theorem endI_le (B : Body) (d : Nat) (kd n : Int) (s : List UInt8) (r : List Tr × Nat) (sz m : Nat) (h : (flatAll r.1).length + sz ≤ m + r.2) (h2 : sz ≤ r.2) (h3 : r.2 ≤ max sz 1000) :
    (flat (endI B d kd n s r).1).length + sz ≤ 1 + m + (endI B d kd n s r).2 ∧ sz ≤ (endI B d kd n s r).2 ∧ (endI B d kd n s r).2 ≤ max sz 1000 := by
  obtain ⟨ks, z⟩ := r
  simp only at h h2 h3
  unfold endI
  simp only
  split
  · rename_i b rest hh
    split
    · rename_i hc
      unfold hitI at hh
      split at hh
      · cases hh
      · rename_i k rest' 
        split at hh
        · rw [Option.map_eq_some_iff] at hh
          obtain ⟨b', _, he⟩ := hh
          injection he with he1 he2
          subst he1 he2
          have hp := flat_pos k
          have hb := flat_pos b'
          rw [flatAll_cons, List.length_append] at h
          simp only
          rw [flat_size, flatAll_append, flatAll_cons, flatAll_nil, List.append_nil, List.length_append]
          omega
        · cases hh
    · simp only
      rw [flat_size]
      omega
  · simp only
    rw [flat_size]
    omega
mutual
theorem inlT_le (B : Body) : ∀ (d : Nat) (t : Tr) (sz : Nat), (flat (inlT B d t sz).1).length + sz ≤ (flat t).length + (inlT B d t sz).2 ∧ sz ≤ (inlT B d t sz).2 ∧ (inlT B d t sz).2 ≤ max sz 1000
  | d, .mk kd n s ks, sz => by
    obtain ⟨h1, h2, h3⟩ := inlTs_le B (d + 1) ks sz
    rw [inlT_mk, flat_size]
    exact endI_le B d kd n s _ sz _ h1 h2 h3
theorem inlTs_le (B : Body) : ∀ (d : Nat) (ts : List Tr) (sz : Nat), (flatAll (inlTs B d ts sz).1).length + sz ≤ (flatAll ts).length + (inlTs B d ts sz).2 ∧ sz ≤ (inlTs B d ts sz).2 ∧ (inlTs B d ts sz).2 ≤ max sz 1000
  | d, [], sz => by
    rw [inlTs_nil]
    exact ⟨Nat.le_refl _, Nat.le_refl _, Nat.le_max_left _ _⟩
  | d, t :: ts, sz => by
    obtain ⟨h1, h2, h3⟩ := inlT_le B d t sz
    obtain ⟨g1, g2, g3⟩ := inlTs_le B d ts (inlT B d t sz).2
    rw [inlTs_cons]
    simp only
    rw [flatAll_cons, flatAll_cons, List.length_append, List.length_append]
    refine ⟨by omega, by omega, ?_⟩
    have : max (inlT B d t sz).2 1000 ≤ max sz 1000 := by omega
    omega
end
/-- The functions that stand ahead. -/
def leadF (ks : List Tr) : List Tr := ks.takeWhile fun k => k.kind == 31
def cntF (L : List Nd) (s : List UInt8) : Nat := L.countP fun x => x.kind == 31 && x.s == s
/-- .. those of a name of their own. -/
def ownK (L : List Nd) (ks : List Tr) : List Tr := ks.filter fun k => cntF L k.str == 1
def ownF (L : List Nd) (ks : List Tr) : List Tr := ownK L (leadF ks)
def bodyL (L : List Nd) (ks : List Tr) : Body := ks.foldl (fun B k => if cntF L k.str == 1 then (fun s => if s = k.str then k.kids.head? else B s) else B) (fun _ => none)
def bodyF (L : List Nd) (ks : List Tr) : Body := bodyL L (leadF ks)
theorem bodyL_nil (L : List Nd) : bodyL L [] = fun _ => none := rfl
theorem bodyL_snoc (L : List Nd) (ks : List Tr) (k : Tr) : bodyL L (ks ++ [k]) = if cntF L k.str == 1 then (fun s => if s = k.str then k.kids.head? else bodyL L ks s) else bodyL L ks := by
  unfold bodyL
  rw [List.foldl_append]
  rfl
theorem ownK_snoc (L : List Nd) (ks : List Tr) (k : Tr) : ownK L (ks ++ [k]) = ownK L ks ++ if cntF L k.str == 1 then [k] else [] := by
  unfold ownK
  rw [List.filter_append, List.filter_cons, List.filter_nil]
theorem snoc_ind {α : Type} {p : List α → Prop} (h0 : p []) (h1 : ∀ l x, p l → p (l ++ [x])) (l : List α) : p l := by
  rw [← l.reverse_reverse]
  induction l.reverse with
  | nil => exact h0
  | cons x t ih => rw [List.reverse_cons]; exact h1 _ _ ih
theorem bodyL_some (L : List Nd) (ks : List Tr) (h : ∀ k ∈ ks, k.kids ≠ []) (s : List UInt8) : (bodyL L ks s).isSome = decide (s ∈ (ownK L ks).map Tr.str) := by
  revert h
  refine snoc_ind (p := fun ks => (∀ k ∈ ks, k.kids ≠ []) → (bodyL L ks s).isSome = decide (s ∈ (ownK L ks).map Tr.str)) (fun _ => rfl) (fun l k ih h => ?_) ks
  have ih' := ih fun k hk => h k (List.mem_append_left _ hk)
  rw [bodyL_snoc, ownK_snoc]
  cases hc : (cntF L k.str == 1)
  · rw [if_neg Bool.noConfusion, if_neg Bool.noConfusion, List.append_nil]
    exact ih'
  · rw [if_pos rfl, if_pos rfl, List.map_append, List.map_cons, List.map_nil]
    by_cases hs : s = k.str
    · rw [if_pos hs]
      have hk := h k (List.mem_append_right _ (List.mem_singleton.2 rfl))
      cases hkk : k.kids with
      | nil => exact absurd hkk hk
      | cons x t => simp [hs]
    · rw [if_neg hs, ih']
      simp [hs]
theorem bodyL_empty (L : List Nd) (ks : List Tr) : ownK L ks = [] → bodyL L ks = fun _ => none := by
  refine snoc_ind (p := fun ks => ownK L ks = [] → bodyL L ks = fun _ => none) (fun _ => rfl) (fun l k ih h => ?_) ks
  rw [ownK_snoc] at h
  have h1 := List.append_eq_nil_iff.1 h
  rw [bodyL_snoc]
  cases hc : (cntF L k.str == 1)
  · rw [if_neg Bool.noConfusion]
    exact ih h1.1
  · rw [hc, if_pos rfl] at h1
    cases h1.2
theorem leadF_len (ks : List Tr) : (leadF ks).length ≤ ks.length := (List.takeWhile_prefix _).length_le
theorem mem_tw {α : Type} {p : α → Bool} : ∀ {l : List α} {x : α}, x ∈ l.takeWhile p → p x = true
  | [], x, h => by simp at h
  | y :: l, x, h => by
    rw [List.takeWhile_cons] at h
    split at h
    · rename_i hy
      rcases List.mem_cons.1 h with rfl | h
      · exact hy
      · exact mem_tw h
    · cases h
theorem leadF_kind {ks : List Tr} {k : Tr} (h : k ∈ leadF ks) : k.kind = 31 := by
  have := mem_tw h
  simpa using this
/-- The passed program. -/
def passI (t : Tr) : Tr := if t.kind == 23 && !((flat t).any fun x => x.kind == 36) && !(ownF (flat t) t.kids).isEmpty then
    .mk 23 0 [] (leadF t.kids ++ (inlTs (bodyF (flat t) t.kids) 2 (t.kids.drop (leadF t.kids).length) (flat t).length).1)
  else t
/- Each call has a word. -/
mutual
def callK : Tr → Bool
  | .mk kd _ _ ks => (kd != 21 || decide (1 ≤ ks.length)) && callKs ks
def callKs : List Tr → Bool
  | [] => true
  | t :: ts => callK t && callKs ts
end
theorem callK_mk (kd n : Int) (s : List UInt8) (ks : List Tr) : callK (.mk kd n s ks) = ((kd != 21 || decide (1 ≤ ks.length)) && callKs ks) := by rw [callK]
theorem callKs_nil : callKs [] = true := by rw [callKs]
theorem callKs_cons (t : Tr) (ts : List Tr) : callKs (t :: ts) = (callK t && callKs ts) := by rw [callKs]
theorem callKs_all : ∀ ts : List Tr, callKs ts = true ↔ ∀ t ∈ ts, callK t = true
  | [] => by simp [callKs_nil]
  | t :: ts => by rw [callKs_cons, Bool.and_eq_true, callKs_all ts]; simp
theorem callKs_ok {d : Nat} {g : Nat → Bool} (ih : ∀ (w : Bool) (t : Tr), okT d w t = true → callK t = true) : ∀ (ks : List Tr) (k : Nat), okAll (fun k t => okT d (g k) t) k ks = true → callKs ks = true
  | [], k, _ => callKs_nil
  | t :: ts, k, h => by
    rw [okAll, Bool.and_eq_true] at h
    rw [callKs_cons, ih _ _ h.1, callKs_ok ih ts (k + 1) h.2]
    rfl
theorem callK_ok : ∀ (d : Nat) (w : Bool) (t : Tr), okT d w t = true → callK t = true
  | 0, w, t, h => by rw [okT] at h; cases h
  | d + 1, w, .mk kd n s ks, h => by
    rw [okT] at h
    simp only [Bool.and_eq_true] at h
    rw [callK_mk, callKs_ok (fun w t h => callK_ok d w t h) ks 0 h.2, Bool.and_true]
    by_cases hk : kd = 21
    · have h1 := h.1.2
      rw [hk] at h1
      simp [childrenB] at h1
      simp [hk]
      omega
    · simp [hk]
end Go.Proofs.YtclifaehbdeldaaDoor
