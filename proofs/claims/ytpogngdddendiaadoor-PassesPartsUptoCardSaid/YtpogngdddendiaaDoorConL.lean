/- Chapter 17's pass on trees, with no program in sight: what each rule makes. No condition. -/
import Derived.Test.YtpogngdddendiaaDoorHE
import Derived.Test.YtpogngdddendiaaDoorHH
set_option linter.unusedVariables false
set_option linter.unusedSimpArgs false
namespace Go.Proofs.YtpogngdddendiaaDoor

def isLit (t : Tr) : Bool := t.kind == 1
def singleB (t : Tr) : Bool := [(1 : Int), 9, 10, 12].contains t.kind
def hasSub (t : Tr) : Bool := (flat t).any fun x => [(12 : Int)].contains x.kind
def sizeL (ts : List Tr) : Nat := (flatAll ts).length
/-- An empty text that two others stand beside. -/
def emptyB (t : Tr) : Bool := isLit t && t.str.isEmpty
def fullF : Nat → List Tr → List Tr
  | _, [] => []
  | c, t :: ts => if emptyB t && decide (2 ≤ c + ts.length) then fullF c ts else t :: fullF (c + 1) ts
def headJ : List Tr → Bool
  | [] => false
  | t :: _ => t.kind == 4
def unj : Nat → List Tr → List Tr
  | 0, ts => ts
  | n + 1, ts => if headJ ts then unj n ((ts.headD (.mk 3 0 [] [])).kids ++ ts.tail) else ts
def opn : Nat → List Tr → List Tr
  | 0, ts => ts
  | n + 1, ts => if headJ (fullF 0 (unj (sizeL ts) ts)) then opn n (fullF 0 (unj (sizeL ts) ts)) else fullF 0 (unj (sizeL ts) ts)
/-- Two texts that become one. -/
def fits (x y : Tr) : Bool := isLit y && isLit x && (x.num == y.num) && decide (x.str.length + y.str.length ≤ 2000)
def merged (x y : Tr) : Tr := .mk 1 x.num (x.str ++ y.str) []
def mrg : Tr → List Tr → List Tr
  | x, [] => [x]
  | x, y :: ts => if fits x y then mrg (merged x y) ts else x :: mrg y ts
def mrgL : List Tr → List Tr
  | [] => []
  | x :: ts => mrg x ts
def joinO : List Tr → Tr
  | [x] => if singleB x then x else .mk 4 0 [] [x]
  | out => .mk 4 0 [] out
def joinT (ks : List Tr) : Tr := joinO (mrgL (opn (sizeL ks) ks))
def catB (i : Nat) (t : Tr) : Bool := t.kind == 3 && (i == 0 || !hasSub t)
def spr1 : Nat → List Tr → List Tr
  | _, [] => []
  | i, t :: ts => (if catB i t then t.kids else [t]) ++ spr1 (i + 1) ts
def chg : Nat → List Tr → Bool
  | _, [] => false
  | i, t :: ts => catB i t || chg (i + 1) ts
def spr : Nat → List Tr → List Tr
  | 0, ts => ts
  | n + 1, ts => if chg 0 ts then spr n (spr1 0 ts) else ts
def catO : List Tr → Tr
  | [x] => x
  | out => .mk 3 0 [] out
def catT (ks : List Tr) : Tr := catO (spr (sizeL ks) ks)
def noneT : Tr := .mk 3 0 [] []
def oneK (x kid : Tr) : Tr :=
  if x.kind == 9 && singleB kid then kid
  else if x.kind == 11 && x.num == 1 && singleB kid then kid
  else if x.kind == 10 && isLit kid then .mk 1 0 [49] []
  else if x.kind == 11 && isLit kid then noneT
  else x
def splitK (x : Tr) : List (List UInt8) → Tr
  | [] => noneT
  | [p] => if openOf p then x else .mk 1 1 p []
  | _ => x
def textK (x kid : Tr) : Tr :=
  if isLit kid then
    if x.kind == 8 then (if (escapeL kid.str).length ≤ 2000 then .mk 1 1 (escapeL kid.str) [] else x)
    else if x.kind == 7 then .mk 1 0 (plainL kid.str) []
    else if x.kind == 6 then (if liveL kid.str then x else .mk 1 0 (plainL kid.str) [])
    else if x.kind == 5 then splitK x (splitL kid.str)
    else x
  else x
def kid0 (ks : List Tr) : Tr := ks.headD noneT
def constK (kd n : Int) (s : List UInt8) (ks : List Tr) : Tr :=
  if kd == 4 then joinT ks else if kd == 3 then catT ks
  else if kd == 9 || kd == 10 || kd == 11 then oneK (.mk kd n s ks) (kid0 ks)
  else if kd == 8 || kd == 7 || kd == 6 || kd == 5 then textK (.mk kd n s ks) (kid0 ks)
  else .mk kd n s ks
mutual
def constT : Tr → Tr
  | .mk kd n s ks => constK kd n s (constTs ks)
def constTs : List Tr → List Tr
  | [] => []
  | t :: ts => constT t :: constTs ts
end
theorem constT_mk (kd n : Int) (s : List UInt8) (ks : List Tr) : constT (.mk kd n s ks) = constK kd n s (constTs ks) := by rw [constT]
theorem constTs_map : ∀ ks : List Tr, constTs ks = ks.map constT
  | [] => by rw [constTs]; rfl
  | t :: ts => by rw [constTs, constTs_map ts]; rfl

/- What is handed on from trees to what is made of them. -/
section
variable {P : Tr → Prop}
theorem full_mem : ∀ (c : Nat) (ts : List Tr), ∀ t ∈ fullF c ts, t ∈ ts
  | _, [], t, h => by rw [fullF] at h; exact h
  | c, u :: ts, t, h => by
    rw [fullF] at h
    split at h
    · exact List.mem_cons_of_mem _ (full_mem c ts t h)
    · rcases List.mem_cons.1 h with rfl | h
      · exact List.mem_cons_self ..
      · exact List.mem_cons_of_mem _ (full_mem (c + 1) ts t h)
theorem full_ne : ∀ (c : Nat) (ts : List Tr), c ≤ 1 → ts ≠ [] → fullF c ts ≠ []
  | c, [], _, h => absurd rfl h
  | c, [t], hc, _ => by
    rw [fullF, if_neg (by simp; omega)]
    simp
  | c, t :: u :: ts, hc, _ => by
    rw [fullF]
    split
    · exact full_ne c (u :: ts) hc (by simp)
    · simp
theorem sizeL_cons (t : Tr) (ts : List Tr) : sizeL (t :: ts) = (flat t).length + sizeL ts := by unfold sizeL; rw [flatAll_cons, List.length_append]
theorem sizeL_nil : sizeL [] = 0 := by unfold sizeL; rw [flatAll_nil]; rfl
theorem sizeL_append (a b : List Tr) : sizeL (a ++ b) = sizeL a + sizeL b := by unfold sizeL; rw [flatAll_append, List.length_append]
theorem sizeL_kids (t : Tr) : sizeL t.kids + 1 = (flat t).length := flat_kids_le t
theorem sizeL_len (ts : List Tr) : ts.length ≤ sizeL ts := len_flatAll ts
theorem full_size : ∀ (c : Nat) (ts : List Tr), fullF c ts = ts ∨ sizeL (fullF c ts) < sizeL ts
  | _, [] => .inl (by rw [fullF])
  | c, t :: ts => by
    have hp := flat_pos t
    rw [fullF]
    split
    · right
      rw [sizeL_cons]
      rcases full_size c ts with h | h
      · rw [h]; omega
      · omega
    · rcases full_size (c + 1) ts with h | h
      · left; rw [h]
      · right; rw [sizeL_cons, sizeL_cons]; omega
theorem full_le (c : Nat) (ts : List Tr) : sizeL (fullF c ts) ≤ sizeL ts := by
  rcases full_size c ts with h | h
  · rw [h]; exact Nat.le_refl _
  · omega
/-- Where the head is a Join: what it opens to. -/
theorem headJ_cons {ts : List Tr} (h : headJ ts = true) : ∃ t us, ts = t :: us ∧ t.kind = 4 := by
  cases ts with
  | nil => cases h
  | cons t us => exact ⟨t, us, rfl, by simpa [headJ] using h⟩
theorem unj_step {n : Nat} {t : Tr} {us : List Tr} (h : t.kind = 4) : unj (n + 1) (t :: us) = unj n (t.kids ++ us) := by
  rw [unj, if_pos (by simp [headJ, h])]
  rfl
theorem unj_stop {n : Nat} {ts : List Tr} (h : headJ ts = false) : unj n ts = ts := by
  cases n with
  | zero => rfl
  | succ n => rw [unj, if_neg (by rw [h]; exact Bool.noConfusion)]
structure Opens (P : Tr → Prop) : Prop where
  kids : ∀ t, P t → t.kind = 4 ∨ t.kind = 3 → ∀ u ∈ t.kids, P u
  some_ : ∀ t, P t → t.kind = 4 → t.kids ≠ []
theorem unj_spec (hP : Opens P) : ∀ (n : Nat) (ts : List Tr), sizeL ts ≤ n → ts ≠ [] → (∀ t ∈ ts, P t) → headJ (unj n ts) = false ∧ unj n ts ≠ [] ∧ (∀ t ∈ unj n ts, P t) ∧ sizeL (unj n ts) ≤ sizeL ts
  | 0, ts, h, hne, _ => by
    have := sizeL_len ts
    cases ts with
    | nil => exact absurd rfl hne
    | cons t us => rw [List.length_cons] at this; omega
  | n + 1, ts, h, hne, hp => by
    cases hj : headJ ts
    · rw [unj_stop hj]
      exact ⟨hj, hne, hp, Nat.le_refl _⟩
    · obtain ⟨t, us, rfl, hk⟩ := headJ_cons hj
      rw [unj_step hk]
      have hs := sizeL_kids t
      rw [sizeL_cons] at h ⊢
      have := unj_spec hP n (t.kids ++ us) (by rw [sizeL_append]; omega) (by
        intro he
        exact hP.some_ t (hp t (List.mem_cons_self ..)) hk (List.append_eq_nil_iff.1 he).1) (fun u hu => by
        rcases List.mem_append.1 hu with hu | hu
        · exact hP.kids t (hp t (List.mem_cons_self ..)) (.inl hk) u hu
        · exact hp u (List.mem_cons_of_mem _ hu))
      refine ⟨this.1, this.2.1, this.2.2.1, ?_⟩
      have h2 := this.2.2.2
      rw [sizeL_append] at h2
      omega
/-- No empty text but where there are two at most. -/
def NoEm (ts : List Tr) : Prop := ts.length ≤ 2 ∨ ∀ t ∈ ts, emptyB t = false
theorem full_noem : ∀ (c : Nat) (ts : List Tr), c + (fullF c ts).length ≤ 2 ∨ ∀ t ∈ fullF c ts, emptyB t = false
  | c, [] => .inr (by rw [fullF]; intro t h; cases h)
  | c, t :: ts => by
    rw [fullF]
    split
    · exact full_noem c ts
    · rename_i h
      have hl : (fullF (c + 1) ts).length ≤ ts.length := by
        have : ∀ (c : Nat) (ts : List Tr), (fullF c ts).length ≤ ts.length := by
          intro c ts
          induction ts generalizing c with
          | nil => rw [fullF]; exact Nat.le_refl _
          | cons t ts ih =>
            rw [fullF]
            split
            · have := ih c; rw [List.length_cons]; omega
            · have := ih (c + 1); rw [List.length_cons, List.length_cons]; omega
        exact this _ _
      cases he : emptyB t
      · rcases full_noem (c + 1) ts with h1 | h1
        · left; rw [List.length_cons]; omega
        · right
          intro u hu
          rcases List.mem_cons.1 hu with rfl | hu
          · exact he
          · exact h1 u hu
      · left
        rw [he] at h
        simp at h
        rw [List.length_cons]
        omega
theorem full_id_some : ∀ (c : Nat) (ts : List Tr), (∀ t ∈ ts, emptyB t = false) → fullF c ts = ts
  | _, [], _ => by rw [fullF]
  | c, t :: ts, h => by
    rw [fullF, if_neg (by rw [h t (List.mem_cons_self ..)]; simp), full_id_some (c + 1) ts (fun u hu => h u (List.mem_cons_of_mem _ hu))]
theorem full_id {ts : List Tr} (h : NoEm ts) : fullF 0 ts = ts := by
  rcases h with h | h
  · match ts, h with
    | [], _ => rw [fullF]
    | [t], _ => rw [fullF, if_neg (by simp), fullF]
    | [t, u], _ => rw [fullF, if_neg (by simp), fullF, if_neg (by simp), fullF]
  · exact full_id_some 0 ts h
theorem opn_spec (hP : Opens P) : ∀ (n : Nat) (ts : List Tr), sizeL ts ≤ n → ts ≠ [] → (∀ t ∈ ts, P t) → headJ (opn n ts) = false ∧ opn n ts ≠ [] ∧ (∀ t ∈ opn n ts, P t) ∧ sizeL (opn n ts) ≤ sizeL ts ∧ NoEm (opn n ts)
  | 0, ts, h, hne, _ => by
    have := sizeL_len ts
    cases ts with
    | nil => exact absurd rfl hne
    | cons t us => rw [List.length_cons] at this; omega
  | n + 1, ts, h, hne, hp => by
    obtain ⟨h1, h2, h3, h4⟩ := unj_spec hP (sizeL ts) ts (Nat.le_refl _) hne hp
    rw [opn]
    have h5 := full_le 0 (unj (sizeL ts) ts)
    have h6 := full_ne 0 _ (by omega) h2
    have h7 : ∀ t ∈ fullF 0 (unj (sizeL ts) ts), P t := fun t ht => h3 t (full_mem 0 _ t ht)
    split
    · rename_i hj
      have h8 : sizeL (fullF 0 (unj (sizeL ts) ts)) < sizeL (unj (sizeL ts) ts) := by
        rcases full_size 0 (unj (sizeL ts) ts) with he | hl
        · rw [he, h1] at hj; cases hj
        · exact hl
      obtain ⟨a, b, c, d, e⟩ := opn_spec hP n _ (by omega) h6 h7
      exact ⟨a, b, c, by omega, e⟩
    · rename_i hj
      refine ⟨by simpa using hj, h6, h7, by omega, ?_⟩
      rcases full_noem 0 (unj (sizeL ts) ts) with h | h
      · exact .inl (by omega)
      · exact .inr h
theorem opn_id {n : Nat} {ts : List Tr} (hj : headJ ts = false) (he : NoEm ts) : opn n ts = ts := by
  cases n with
  | zero => rfl
  | succ n =>
    have h : fullF 0 (unj (sizeL ts) ts) = ts := by rw [unj_stop hj, full_id he]
    rw [opn, h, if_neg (by rw [hj]; exact Bool.noConfusion)]

/- Texts joined. -/
def noFit : List Tr → Bool
  | x :: y :: ts => !fits x y && noFit (y :: ts)
  | _ => true
/-- It has grown, at most. -/
def Grown (x y : Tr) : Prop := x = y ∨ (isLit x = true ∧ isLit y = true ∧ y.num = x.num ∧ x.str.length ≤ y.str.length)
theorem Grown.trans {x y z : Tr} (h : Grown x y) (h' : Grown y z) : Grown x z := by
  rcases h with rfl | ⟨a, b, c, d⟩
  · exact h'
  · rcases h' with rfl | ⟨e, f, g, h⟩
    · exact .inr ⟨a, b, c, d⟩
    · exact .inr ⟨a, f, by rw [g, c], by omega⟩
theorem fits_grown {a x y : Tr} (h : Grown x y) (hf : fits a x = false) : fits a y = false := by
  rcases h with rfl | ⟨h1, h2, h3, h4⟩
  · exact hf
  · unfold fits at *
    rw [h1] at hf
    rw [h2, h3]
    simp only [Bool.and_eq_false_iff, decide_eq_false_iff_not] at *
    rcases hf with ((hf | hf) | hf) | hf
    · cases hf
    · exact .inl (.inl (.inr hf))
    · exact .inl (.inr hf)
    · exact .inr (by omega)
theorem fits_lit {x y : Tr} (h : fits x y = true) : isLit x = true ∧ isLit y = true ∧ x.num = y.num ∧ x.str.length + y.str.length ≤ 2000 := by
  unfold fits at h
  simp only [Bool.and_eq_true, decide_eq_true_eq, beq_iff_eq] at h
  exact ⟨h.1.1.2, h.1.1.1, h.1.2, h.2⟩
theorem mrg_head : ∀ (ts : List Tr) (x : Tr), ∃ y r, mrg x ts = y :: r ∧ Grown x y
  | [], x => ⟨x, [], by rw [mrg], .inl rfl⟩
  | y :: ts, x => by
    rw [mrg]
    split
    · rename_i h
      obtain ⟨z, r, h1, h2⟩ := mrg_head ts (merged x y)
      exact ⟨z, r, h1, Grown.trans (show Grown x (merged x y) from .inr ⟨(fits_lit h).1, rfl, rfl, by simp [merged, Tr.str]⟩) h2⟩
    · exact ⟨x, _, rfl, .inl rfl⟩
theorem mrg_nofit : ∀ (ts : List Tr) (x : Tr), noFit (mrg x ts) = true
  | [], x => by rw [mrg]; rfl
  | y :: ts, x => by
    rw [mrg]
    split
    · exact mrg_nofit ts _
    · rename_i h
      have ih := mrg_nofit ts y
      obtain ⟨z, r, h1, h2⟩ := mrg_head ts y
      rw [h1] at ih ⊢
      rw [noFit, ih, fits_grown h2 (by simpa using h)]
      rfl
theorem mrg_id : ∀ (ts : List Tr) (x : Tr), noFit (x :: ts) = true → mrg x ts = x :: ts
  | [], x, _ => by rw [mrg]
  | y :: ts, x, h => by
    rw [noFit, Bool.and_eq_true] at h
    rw [mrg, if_neg (by simpa using h.1), mrg_id ts y h.2]
theorem mrg_mem (hM : ∀ x y, P x → P y → fits x y = true → P (merged x y)) : ∀ (ts : List Tr) (x : Tr), P x → (∀ t ∈ ts, P t) → ∀ t ∈ mrg x ts, P t
  | [], x, hx, _, t, ht => by rw [mrg, List.mem_singleton] at ht; rw [ht]; exact hx
  | y :: ts, x, hx, h, t, ht => by
    rw [mrg] at ht
    split at ht
    · rename_i hf
      exact mrg_mem hM ts _ (hM x y hx (h y (List.mem_cons_self ..)) hf) (fun u hu => h u (List.mem_cons_of_mem _ hu)) t ht
    · rcases List.mem_cons.1 ht with rfl | ht
      · exact hx
      · exact mrg_mem hM ts y (h y (List.mem_cons_self ..)) (fun u hu => h u (List.mem_cons_of_mem _ hu)) t ht
theorem mrg_len : ∀ (ts : List Tr) (x : Tr), (mrg x ts).length ≤ ts.length + 1
  | [], x => by rw [mrg]; exact Nat.le_refl _
  | y :: ts, x => by
    rw [mrg]
    split
    · have := mrg_len ts (merged x y); rw [List.length_cons]; omega
    · have := mrg_len ts y; rw [List.length_cons, List.length_cons]; omega
theorem mrg_size : ∀ (ts : List Tr) (x : Tr), sizeL (mrg x ts) ≤ sizeL (x :: ts)
  | [], x => by rw [mrg]; exact Nat.le_refl _
  | y :: ts, x => by
    rw [mrg]
    have h1 := flat_pos x
    have h2 := flat_pos y
    split
    · have := mrg_size ts (merged x y)
      rw [sizeL_cons] at this
      have h3 : (flat (merged x y)).length = 1 := by rw [merged, flat_size, flatAll_nil]; rfl
      rw [sizeL_cons, sizeL_cons]
      omega
    · have := mrg_size ts y
      rw [sizeL_cons, sizeL_cons]
      omega
theorem grown_join {x y : Tr} (h : Grown x y) (hx : (x.kind == 4) = false) : (y.kind == 4) = false := by
  rcases h with rfl | ⟨_, h2, _⟩
  · exact hx
  · unfold isLit at h2
    rw [beq_iff_eq] at h2
    rw [h2]
    rfl
theorem merged_empty {x y : Tr} (hx : emptyB x = false) (h : fits x y = true) : emptyB (merged x y) = false := by
  obtain ⟨h1, _⟩ := fits_lit h
  unfold emptyB at *
  rw [h1, Bool.true_and] at hx
  rw [Bool.and_eq_false_iff]
  right
  show (x.str ++ y.str).isEmpty = false
  cases hs : x.str with
  | nil => rw [hs] at hx; cases hx
  | cons c t => rfl
theorem mrg_noem {x : Tr} {ts : List Tr} (h : NoEm (x :: ts)) : NoEm (mrg x ts) := by
  rcases h with h | h
  · left
    have := mrg_len ts x
    rw [List.length_cons] at h
    omega
  · right
    exact mrg_mem (P := fun t => emptyB t = false) (fun x y hx _ hf => merged_empty hx hf) ts x (h x (List.mem_cons_self ..)) (fun t ht => h t (List.mem_cons_of_mem _ ht))

/- Lists spread. -/
theorem spr1_id : ∀ (i : Nat) (ts : List Tr), chg i ts = false → spr1 i ts = ts
  | _, [], _ => by rw [spr1]
  | i, t :: ts, h => by
    rw [chg, Bool.or_eq_false_iff] at h
    rw [spr1, h.1, spr1_id (i + 1) ts h.2]
    rfl
theorem spr1_size : ∀ (i : Nat) (ts : List Tr), sizeL (spr1 i ts) ≤ sizeL ts ∧ (chg i ts = true → sizeL (spr1 i ts) < sizeL ts)
  | _, [] => by rw [spr1, chg]; exact ⟨Nat.le_refl _, fun h => by cases h⟩
  | i, t :: ts => by
    obtain ⟨h1, h2⟩ := spr1_size (i + 1) ts
    have hk := sizeL_kids t
    rw [spr1, chg, sizeL_append, sizeL_cons]
    cases hc : catB i t
    · simp only [Bool.false_eq_true, if_false, Bool.false_or, sizeL_cons, sizeL_nil]
      exact ⟨by omega, fun h => by have := h2 h; omega⟩
    · simp only [if_true, Bool.true_or]
      exact ⟨by omega, fun _ => by omega⟩
theorem spr1_mem (hP : Opens P) : ∀ (i : Nat) (ts : List Tr), (∀ t ∈ ts, P t) → ∀ t ∈ spr1 i ts, P t
  | _, [], _, t, h => by rw [spr1] at h; cases h
  | i, u :: ts, hp, t, h => by
    rw [spr1, List.mem_append] at h
    rcases h with h | h
    · split at h
      · rename_i hc
        refine hP.kids u (hp u (List.mem_cons_self ..)) (.inr ?_) t h
        unfold catB at hc
        simp only [Bool.and_eq_true, beq_iff_eq] at hc
        exact hc.1
      · rw [List.mem_singleton.1 h]; exact hp u (List.mem_cons_self ..)
    · exact spr1_mem hP (i + 1) ts (fun v hv => hp v (List.mem_cons_of_mem _ hv)) t h
theorem spr_spec (hP : Opens P) : ∀ (n : Nat) (ts : List Tr), sizeL ts ≤ n → (∀ t ∈ ts, P t) → chg 0 (spr n ts) = false ∧ (∀ t ∈ spr n ts, P t) ∧ sizeL (spr n ts) ≤ sizeL ts
  | 0, ts, h, hp => by
    have := sizeL_len ts
    cases ts with
    | nil => exact ⟨rfl, hp, Nat.le_refl _⟩
    | cons t us => rw [List.length_cons] at this; omega
  | n + 1, ts, h, hp => by
    rw [spr]
    split
    · rename_i hc
      have h2 := (spr1_size 0 ts).2 hc
      obtain ⟨a, b, c⟩ := spr_spec hP n (spr1 0 ts) (by omega) (spr1_mem hP 0 ts hp)
      exact ⟨a, b, by omega⟩
    · rename_i hc
      exact ⟨by simpa using hc, hp, Nat.le_refl _⟩
theorem spr_id {n : Nat} {ts : List Tr} (h : chg 0 ts = false) : spr n ts = ts := by
  cases n with
  | zero => rfl
  | succ n => rw [spr, if_neg (by rw [h]; exact Bool.noConfusion)]
end

/- Where nothing more is to be done. -/
inductive NF : Tr → Prop
  | mk (kd n : Int) (s : List UInt8) (ks : List Tr) (h : constK kd n s ks = .mk kd n s ks) (hk : ∀ t ∈ ks, NF t) : NF (.mk kd n s ks)
theorem NF.kids {t : Tr} (h : NF t) : ∀ u ∈ t.kids, NF u := by
  cases h with
  | mk kd n s ks h hk => exact hk
theorem NF.fix {t : Tr} (h : NF t) : constK t.kind t.num t.str t.kids = t := by
  cases h with
  | mk kd n s ks h hk => exact h
mutual
theorem const_id : ∀ t : Tr, NF t → constT t = t
  | .mk kd n s ks, h => by
    have h1 := consts_id ks h.kids
    rw [constT_mk, h1]
    exact h.fix
theorem consts_id : ∀ ks : List Tr, (∀ t ∈ ks, NF t) → constTs ks = ks
  | [], _ => by rw [constTs]
  | t :: ts, h => by rw [constTs, const_id t (h t (List.mem_cons_self ..)), consts_id ts (fun u hu => h u (List.mem_cons_of_mem _ hu))]
end
theorem nf_lit (n : Int) (s : List UInt8) : NF (.mk 1 n s []) := .mk _ _ _ _ rfl (fun t h => by cases h)
theorem nf_none : NF noneT := .mk _ _ _ _ (by
  show catT [] = noneT
  unfold catT
  rw [spr_id rfl]
  rfl) (fun t h => by cases h)
theorem joinO_two {out : List Tr} (h : ∀ x, out = [x] → singleB x = false) : joinO out = .mk 4 0 [] out := by
  match out, h with
  | [], _ => rfl
  | [x], h => rw [joinO, h x rfl]; rfl
  | x :: y :: out, _ => rfl
theorem catO_two {out : List Tr} (h : ∀ x, out ≠ [x]) : catO out = .mk 3 0 [] out := by
  match out, h with
  | [], _ => rfl
  | [x], h => exact absurd rfl (h x)
  | x :: y :: out, _ => rfl
/-- A list as a Join has it behind. -/
structure Joined (ts : List Tr) : Prop where
  head : headJ ts = false
  noem : NoEm ts
  nofit : noFit ts = true
theorem Joined.id {ts : List Tr} (h : Joined ts) (n : Nat) : mrgL (opn n ts) = ts := by
  rw [opn_id h.head h.noem]
  cases ts with
  | nil => rfl
  | cons x ts => exact mrg_id ts x h.nofit
theorem mrgL_joined {ts : List Tr} (hj : headJ ts = false) (hn : NoEm ts) : Joined (mrgL ts) := by
  cases ts with
  | nil => exact ⟨rfl, .inl (by simp [mrgL]), rfl⟩
  | cons x ts =>
    refine ⟨?_, mrg_noem hn, mrg_nofit ts x⟩
    obtain ⟨y, r, h1, h2⟩ := mrg_head ts x
    show headJ (mrg x ts) = false
    rw [h1]
    exact grown_join h2 hj
theorem mrgL_mem {P : Tr → Prop} (hM : ∀ x y, P x → P y → fits x y = true → P (merged x y)) (ts : List Tr) (h : ∀ t ∈ ts, P t) : ∀ t ∈ mrgL ts, P t := by
  cases ts with
  | nil => exact h
  | cons x ts => exact mrg_mem hM ts x (h x (List.mem_cons_self ..)) (fun t ht => h t (List.mem_cons_of_mem _ ht))
theorem mrgL_size (ts : List Tr) : sizeL (mrgL ts) ≤ sizeL ts := by
  cases ts with
  | nil => exact Nat.le_refl _
  | cons x ts => exact mrg_size ts x
/-- A word that may be, and what is handed down by it. -/
def WdT (d : Nat) (t : Tr) : Prop := okT d true t = true
theorem okT_mono' : ∀ (d : Nat) (w : Bool) (t : Tr), okT d w t = true → okT (d + 1) w t = true := okT_mono
theorem wd_opens (d : Nat) : Opens (WdT d) where
  kids t h hk u hu := by
    cases d with
    | zero => cases t; rw [WdT, okT] at h; cases h
    | succ d =>
      cases t with
      | mk kd n s ks =>
        rw [WdT, okT] at h
        simp only [Bool.and_eq_true] at h
        have h2 : okAll (fun _ t => okT d true t) 0 ks = true := by
          rcases hk with hk | hk
          · obtain rfl : kd = 4 := hk
            exact h.2
          · obtain rfl : kd = 3 := hk
            exact h.2
        exact okT_mono _ _ _ ((okAll_forall ks 0).1 h2 u hu)
  some_ t h hk := by
    cases d with
    | zero => cases t; rw [WdT, okT] at h; cases h
    | succ d =>
      cases t with
      | mk kd n s ks =>
        obtain rfl : kd = 4 := hk
        rw [WdT, okT] at h
        simp only [Bool.and_eq_true] at h
        have h3 := h.1.2
        intro he
        simp only [Tr.kids] at he
        rw [he] at h3
        exact absurd h3 (by decide)
theorem and_opens {P Q : Tr → Prop} (hP : Opens P) (hQ : ∀ t, Q t → ∀ u ∈ t.kids, Q u) : Opens fun t => P t ∧ Q t :=
  ⟨fun t h hk u hu => ⟨hP.kids t h.1 hk u hu, hQ t h.2 u hu⟩, fun t h hk => hP.some_ t h.1 hk⟩
theorem open_append (a b : List UInt8) (h : openOf a = false) : openOf (a ++ b) = openOf b := by
  revert h
  induction a using text_induct with
  | h0 => intro _; rfl
  | h1 => intro h; rw [openOf_last] at h; cases h
  | h2 d t ih => intro h; rw [openOf_esc] at h; rw [List.cons_append, List.cons_append, openOf_esc]; exact ih h
  | h3 c t hc ih => intro h; rw [openOf_ne hc] at h; rw [List.cons_append, openOf_ne hc]; exact ih h
theorem fields_lit (n k z : Int) (s : List UInt8) : fieldsB ⟨1, n, k, z, s⟩ = ((n == 0 || n == 1 && !openOf s) && decide (s.length ≤ 2000)) := rfl
theorem lit_ok {d : Nat} {n : Int} {s : List UInt8} (h1 : n = 0 ∨ (n = 1 ∧ openOf s = false)) (h2 : s.length ≤ 2000) : okT (d + 1) true (.mk 1 n s []) = true := by
  rw [okT]
  simp only [Bool.and_eq_true]
  refine ⟨⟨⟨by decide, ?_⟩, by decide⟩, rfl⟩
  rw [fields_lit]
  simp only [Bool.and_eq_true, Bool.or_eq_true, beq_iff_eq, decide_eq_true_eq, Bool.not_eq_true']
  exact ⟨h1, h2⟩
theorem ok_lit {d : Nat} {t : Tr} (h : okT d true t = true) (hk : isLit t = true) : (t.num = 0 ∨ (t.num = 1 ∧ openOf t.str = false)) ∧ t.str.length ≤ 2000 ∧ ∃ d', d = d' + 1 := by
  cases d with
  | zero => cases t; rw [okT] at h; cases h
  | succ d =>
    cases t with
    | mk kd n s ks =>
      have hk2 : kd = 1 := by simpa [isLit, Tr.kind] using hk
      subst hk2
      rw [okT] at h
      simp only [Bool.and_eq_true] at h
      have h2 := h.1.1.2
      rw [fields_lit] at h2
      simp only [Bool.and_eq_true, Bool.or_eq_true, beq_iff_eq, decide_eq_true_eq, Bool.not_eq_true'] at h2
      exact ⟨h2.1, h2.2, d, rfl⟩
theorem merged_ok {d : Nat} {x y : Tr} (hx : WdT d x) (hy : WdT d y) (hf : fits x y = true) : WdT d (merged x y) := by
  obtain ⟨h1, h2, h3, h4⟩ := fits_lit hf
  obtain ⟨a1, a2, d', rfl⟩ := ok_lit hx h1
  obtain ⟨b1, b2, _⟩ := ok_lit hy h2
  refine lit_ok ?_ (by rw [List.length_append]; exact h4)
  rcases a1 with a1 | ⟨a1, a3⟩
  · exact .inl a1
  · rcases b1 with b1 | ⟨b1, b3⟩
    · rw [← h3, a1] at b1; cases b1
    · exact .inr ⟨a1, by rw [open_append _ _ a3]; exact b3⟩
theorem listW_ok {d : Nat} {kd : Int} {ks : List Tr} (hkd : kd = 3 ∨ kd = 4) (h : ∀ t ∈ ks, okT d true t = true) (hl : kd = 4 → ks ≠ []) : okT (d + 1) true (.mk kd 0 [] ks) = true := by
  rw [okT]
  simp only [Bool.and_eq_true]
  rcases hkd with rfl | rfl
  · exact ⟨⟨⟨by decide, by decide⟩, by simp [childrenB]⟩, (okAll_forall ks 0).2 h⟩
  · refine ⟨⟨⟨by decide, by decide⟩, ?_⟩, (okAll_forall ks 0).2 h⟩
    have := List.length_pos_iff.2 (hl rfl)
    simp [childrenB]
    omega
/-- What a Join comes to. -/
theorem join_spec {d : Nat} {ks : List Tr} (hne : ks ≠ []) (hk : ∀ t ∈ ks, WdT d t ∧ NF t) : NF (joinT ks) ∧ okT (d + 1) true (joinT ks) = true ∧ (flat (joinT ks)).length ≤ 1 + sizeL ks := by
  obtain ⟨h1, h2, h3, h4, h5⟩ := opn_spec (and_opens (wd_opens d) (fun t => NF.kids)) (sizeL ks) ks (Nat.le_refl _) hne hk
  have hJ := mrgL_joined h1 h5
  have hM : ∀ x y, (WdT d x ∧ NF x) → (WdT d y ∧ NF y) → fits x y = true → (WdT d (merged x y) ∧ NF (merged x y)) := fun x y hx hy hf => ⟨merged_ok hx.1 hy.1 hf, nf_lit _ _⟩
  have hm := mrgL_mem hM _ h3
  have hs := mrgL_size (opn (sizeL ks) ks)
  have hne2 : mrgL (opn (sizeL ks) ks) ≠ [] := by
    cases he : opn (sizeL ks) ks with
    | nil => exact absurd he h2
    | cons x ts =>
      obtain ⟨y, r, hy, _⟩ := mrg_head ts x
      show mrg x ts ≠ []
      rw [hy]
      exact List.cons_ne_nil _ _
  have hdef : joinT ks = joinO (mrgL (opn (sizeL ks) ks)) := rfl
  generalize mrgL (opn (sizeL ks) ks) = out at *
  rw [hdef]
  by_cases hs1 : ∃ x, out = [x] ∧ singleB x = true
  · obtain ⟨x, rfl, hx⟩ := hs1
    rw [joinO, if_pos hx]
    have h := hm x (List.mem_cons_self ..)
    rw [sizeL_cons, sizeL_nil] at hs
    exact ⟨h.2, okT_mono _ _ _ h.1, by omega⟩
  · have he : joinO out = .mk 4 0 [] out := joinO_two fun x hx => by
      cases hq : singleB x
      · rfl
      · exact absurd ⟨x, hx, hq⟩ hs1
    rw [he]
    refine ⟨.mk _ _ _ _ ?_ (fun t ht => (hm t ht).2), listW_ok (.inr rfl) (fun t ht => (hm t ht).1) (fun _ => hne2), by rw [flat_size]; unfold sizeL at *; omega⟩
    show joinT out = _
    unfold joinT
    rw [hJ.id, he]
theorem cat_spec {d : Nat} {ks : List Tr} (hk : ∀ t ∈ ks, WdT d t ∧ NF t) : NF (catT ks) ∧ okT (d + 1) true (catT ks) = true ∧ (flat (catT ks)).length ≤ 1 + sizeL ks := by
  obtain ⟨h1, h2, h3⟩ := spr_spec (and_opens (wd_opens d) (fun t => NF.kids)) (sizeL ks) ks (Nat.le_refl _) hk
  have hdef : catT ks = catO (spr (sizeL ks) ks) := rfl
  generalize spr (sizeL ks) ks = out at *
  rw [hdef]
  by_cases hs1 : ∃ x, out = [x]
  · obtain ⟨x, rfl⟩ := hs1
    have h := h2 x (List.mem_cons_self ..)
    rw [sizeL_cons, sizeL_nil] at h3
    exact ⟨h.2, okT_mono _ _ _ h.1, by show (flat x).length ≤ _; omega⟩
  · have he : catO out = .mk 3 0 [] out := catO_two fun x hx => hs1 ⟨x, hx⟩
    rw [he]
    refine ⟨.mk _ _ _ _ ?_ (fun t ht => (h2 t ht).2), listW_ok (.inl rfl) (fun t ht => (h2 t ht).1) (fun h => by cases h), by rw [flat_size]; unfold sizeL at *; omega⟩
    show catT out = _
    unfold catT
    rw [spr_id h1, he]
theorem plain_len (s : List UInt8) : (plainL s).length ≤ s.length := by
  unfold plainL
  rw [List.length_map]
  exact piecesOf_length_le s 0
theorem split_len (s : List UInt8) : ∀ p ∈ splitL s, p.length ≤ s.length := by
  have : ∀ (l : List Piece) (frm : Nat), ∀ p ∈ splitP s l frm, p.length ≤ s.length := by
    intro l
    induction l with
    | nil =>
      intro frm p hp
      rw [splitP] at hp
      split at hp
      · rw [List.mem_singleton.1 hp, List.length_drop]; omega
      · cases hp
    | cons q l ih =>
      intro frm p hp
      rw [splitP] at hp
      split at hp
      · split at hp
        · rcases List.mem_cons.1 hp with rfl | hp
          · simp only [List.length_drop, List.length_take]; omega
          · exact ih _ p hp
        · exact ih _ p hp
      · exact ih _ p hp
  exact this _ _
theorem one_len {kd n : Int} {s : List UInt8} {k : Tr} : (flat (.mk kd n s [k])).length = 1 + (flat k).length := by
  rw [flat_size, flatAll_cons, flatAll_nil, List.append_nil]
theorem nf_of {kd n : Int} {s : List UInt8} {ks : List Tr} (h : constK kd n s ks = .mk kd n s ks) (hk : ∀ t ∈ ks, NF t) : NF (.mk kd n s ks) := .mk _ _ _ _ h hk
/-- What a word's kid makes of it. -/
theorem unary_spec {d : Nat} {kd n : Int} {s : List UInt8} {k r : Tr} (hr : constK kd n s [k] = r) (hc : r = .mk kd n s [k] ∨ r = k ∨ r = noneT ∨ ∃ n' s', r = .mk 1 n' s' [] ∧ (n' = 0 ∨ (n' = 1 ∧ openOf s' = false)) ∧ s'.length ≤ 2000)
    (ho : okT (d + 1) true (.mk kd n s [k]) = true) (hk : okT d true k = true ∧ NF k) : NF r ∧ okT (d + 1) true r = true ∧ (flat r).length ≤ 1 + sizeL [k] := by
  have hp := flat_pos k
  rw [sizeL_cons, sizeL_nil]
  rcases hc with rfl | rfl | rfl | ⟨n', s', rfl, h1, h2⟩
  · exact ⟨nf_of hr (fun t ht => by rw [List.mem_singleton.1 ht]; exact hk.2), ho, by rw [one_len]; omega⟩
  · exact ⟨hk.2, okT_mono _ _ _ hk.1, by omega⟩
  · exact ⟨nf_none, listW_ok (.inl rfl) (fun t h => by cases h) (fun h => by cases h), by rw [noneT, flat_size, flatAll_nil, List.length_nil]; omega⟩
  · exact ⟨nf_lit _ _, lit_ok h1 h2, by rw [flat_size, flatAll_nil, List.length_nil]; omega⟩
theorem oneK_cases (x kid : Tr) : oneK x kid = x ∨ oneK x kid = kid ∨ oneK x kid = noneT ∨ oneK x kid = .mk 1 0 [49] [] := by
  unfold oneK
  repeat' split
  all_goals simp
theorem one_spec {d : Nat} {kd n : Int} {s : List UInt8} {k : Tr} (h : kd = 9 ∨ kd = 10 ∨ kd = 11) (ho : okT (d + 1) true (.mk kd n s [k]) = true) (hk : okT d true k = true ∧ NF k) : NF (constK kd n s [k]) ∧ okT (d + 1) true (constK kd n s [k]) = true ∧ (flat (constK kd n s [k])).length ≤ 1 + sizeL [k] := by
  have he : constK kd n s [k] = oneK (.mk kd n s [k]) k := by rcases h with rfl | rfl | rfl <;> rfl
  refine unary_spec rfl ?_ ho hk
  rw [he]
  rcases oneK_cases (.mk kd n s [k]) k with h | h | h | h
  · exact .inl h
  · exact .inr (.inl h)
  · exact .inr (.inr (.inl h))
  · exact .inr (.inr (.inr ⟨0, [49], h, .inl rfl, by simp⟩))
theorem text_spec {d : Nat} {kd n : Int} {s : List UInt8} {k : Tr} (h : kd = 8 ∨ kd = 7 ∨ kd = 6 ∨ kd = 5) (ho : okT (d + 1) true (.mk kd n s [k]) = true) (hk : okT d true k = true ∧ NF k) : NF (constK kd n s [k]) ∧ okT (d + 1) true (constK kd n s [k]) = true ∧ (flat (constK kd n s [k])).length ≤ 1 + sizeL [k] := by
  have he : constK kd n s [k] = textK (.mk kd n s [k]) k := by rcases h with rfl | rfl | rfl | rfl <;> rfl
  refine unary_spec rfl ?_ ho hk
  rw [he]
  unfold textK
  split
  · rename_i hl
    obtain ⟨h1, h2, _⟩ := ok_lit hk.1 hl
    repeat' split
    · rename_i h3
      exact .inr (.inr (.inr ⟨1, _, rfl, .inr ⟨rfl, open_escape _⟩, h3⟩))
    · exact .inl rfl
    · exact .inr (.inr (.inr ⟨0, _, rfl, .inl rfl, Nat.le_trans (plain_len _) h2⟩))
    · exact .inl rfl
    · exact .inr (.inr (.inr ⟨0, _, rfl, .inl rfl, Nat.le_trans (plain_len _) h2⟩))
    · cases hsp : splitL k.str with
      | nil => exact .inr (.inr (.inl rfl))
      | cons p ps =>
        cases ps with
        | nil =>
          rw [splitK]
          split
          · exact .inl rfl
          · rename_i h3
            refine .inr (.inr (.inr ⟨1, p, rfl, .inr ⟨rfl, by simpa using h3⟩, ?_⟩))
            exact Nat.le_trans (split_len _ p (by rw [hsp]; exact List.mem_cons_self ..)) h2
        | cons q ps => exact .inl rfl
    · exact .inl rfl
  · exact .inl rfl
theorem consts_size : ∀ ks : List Tr, (∀ t ∈ ks, (flat (constT t)).length ≤ (flat t).length) → sizeL (ks.map constT) ≤ sizeL ks
  | [], _ => Nat.le_refl _
  | t :: ts, h => by
    rw [List.map_cons, sizeL_cons, sizeL_cons]
    have h1 := h t (List.mem_cons_self ..)
    have h2 := consts_size ts (fun u hu => h u (List.mem_cons_of_mem _ hu))
    omega
theorem word_kind {w : Bool} {kd : Int} (h : kindB w kd = true) (h1 : 3 ≤ kd) (h2 : kd ≤ 11) : w = true := by
  cases w
  · simp [kindB, commandB] at h
    omega
  · rfl
theorem words_kids {d : Nat} {w : Bool} {kd n : Int} {s : List UInt8} {ks : List Tr} (h : okT (d + 1) w (.mk kd n s ks) = true) (h1 : 3 ≤ kd) (h2 : kd ≤ 11) : w = true ∧ (∀ t ∈ ks, okT d true t = true) ∧ (kd ≠ 3 → ks ≠ []) ∧ (5 ≤ kd → ∃ k, ks = [k]) := by
  rw [okT] at h
  simp only [Bool.and_eq_true] at h
  obtain ⟨⟨⟨h3, h4⟩, h5⟩, h6⟩ := h
  have hc : kd = 3 ∨ kd = 4 ∨ kd = 5 ∨ kd = 6 ∨ kd = 7 ∨ kd = 8 ∨ kd = 9 ∨ kd = 10 ∨ kd = 11 := by omega
  refine ⟨word_kind h3 h1 h2, ?_, ?_, ?_⟩
  · rcases hc with rfl | rfl | rfl | rfl | rfl | rfl | rfl | rfl | rfl
    all_goals exact (okAll_forall ks 0).1 h6
  · intro h0 he
    subst he
    rcases hc with rfl | rfl | rfl | rfl | rfl | rfl | rfl | rfl | rfl
    · exact absurd rfl h0
    all_goals exact absurd h5 (by decide)
  · intro h0
    have hl : ks.length = 1 := by
      rcases hc with rfl | rfl | rfl | rfl | rfl | rfl | rfl | rfl | rfl
      all_goals first
        | (exfalso; omega)
        | (simp [childrenB] at h5; omega)
    exact List.length_eq_one_iff.1 hl
/-- A passed program may be, where the program may; nothing more is to be done; it is no longer. -/
theorem const_spec : ∀ (d : Nat) (w : Bool) (t : Tr), okT d w t = true → okT d w (constT t) = true ∧ NF (constT t) ∧ (flat (constT t)).length ≤ (flat t).length
  | 0, w, t, h => by rw [okT] at h; cases h
  | d + 1, w, .mk kd n s ks, h => by
    have ih := const_spec d
    have h' := h
    rw [okT] at h'
    simp only [Bool.and_eq_true] at h'
    obtain ⟨h1, h6⟩ := h'
    have hkid : ∀ t ∈ ks, NF (constT t) ∧ (flat (constT t)).length ≤ (flat t).length := fun t ht => by
      obtain ⟨k, hk⟩ := okAll_mem ks 0 h6 t ht
      exact (ih _ t hk).2
    have hsz := consts_size ks (fun t ht => (hkid t ht).2)
    have hok : okT (d + 1) w (.mk kd n s (ks.map constT)) = true := by
      rw [okT]
      simp only [Bool.and_eq_true, List.length_map]
      exact ⟨h1, okAll_map ks 0 (fun t _ k h => (ih _ t h).1) h6⟩
    have hnf : ∀ t ∈ ks.map constT, NF t := fun t ht => by
      obtain ⟨u, hu, rfl⟩ := List.mem_map.1 ht
      exact (hkid u hu).1
    rw [constT_mk, constTs_map, flat_size]
    have hszL : (flatAll ks).length = sizeL ks := rfl
    rw [hszL]
    generalize ks.map constT = ks' at *
    by_cases hr : 3 ≤ kd ∧ kd ≤ 11
    · obtain ⟨rfl, hw, hne, hone⟩ := words_kids hok hr.1 hr.2
      have hall : ∀ t ∈ ks', okT d true t = true ∧ NF t := fun t ht => ⟨hw t ht, hnf t ht⟩
      have hc : kd = 4 ∨ kd = 3 ∨ (kd = 9 ∨ kd = 10 ∨ kd = 11) ∨ (kd = 8 ∨ kd = 7 ∨ kd = 6 ∨ kd = 5) := by omega
      rcases hc with hk | hk | hk | hk
      · subst hk
        obtain ⟨a, b, c⟩ := join_spec (hne (by decide)) hall
        exact ⟨b, a, by show (flat (joinT ks')).length ≤ _; omega⟩
      · subst hk
        obtain ⟨a, b, c⟩ := cat_spec hall
        exact ⟨b, a, by show (flat (catT ks')).length ≤ _; omega⟩
      · obtain ⟨k, rfl⟩ := hone (by omega)
        obtain ⟨a, b, c⟩ := one_spec hk hok (hall k (List.mem_cons_self ..))
        exact ⟨b, a, by omega⟩
      · obtain ⟨k, rfl⟩ := hone (by omega)
        obtain ⟨a, b, c⟩ := text_spec hk hok (hall k (List.mem_cons_self ..))
        exact ⟨b, a, by omega⟩
    · have he : constK kd n s ks' = .mk kd n s ks' := by
        have hb : ∀ m : Int, 3 ≤ m → m ≤ 11 → (kd == m) = false := fun m h1 h2 => by rw [beq_eq_false_iff_ne]; omega
        unfold constK
        rw [hb 4 (by decide) (by decide), hb 3 (by decide) (by decide), hb 9 (by decide) (by decide), hb 10 (by decide) (by decide), hb 11 (by decide) (by decide), hb 8 (by decide) (by decide), hb 7 (by decide) (by decide), hb 6 (by decide) (by decide), hb 5 (by decide) (by decide)]
        rfl
      rw [he]
      exact ⟨hok, nf_of he hnf, by rw [flat_size]; have : (flatAll ks').length = sizeL ks' := rfl; omega⟩
/-- A Join where nothing more is to be done: no first Join in it, no two neighbours that fit. -/
theorem nf_join {d : Nat} {w : Bool} {t : Tr} (h : NF t) (ho : okT d w t = true) (hk : t.kind = 4) : Joined t.kids := by
  have h1 := h.fix
  cases d with
  | zero => cases t; rw [okT] at ho; cases ho
  | succ d =>
  cases t with
  | mk kd n s ks =>
    obtain rfl : kd = 4 := hk
    have h2 : joinT ks = .mk 4 n s ks := h1
    obtain ⟨_, hw, hne, _⟩ := words_kids ho (by decide) (by decide)
    obtain ⟨g1, _, _, _, g5⟩ := opn_spec (wd_opens d) (sizeL ks) ks (Nat.le_refl _) (hne (by decide)) hw
    show Joined ks
    have hd : joinO (mrgL (opn (sizeL ks) ks)) = .mk 4 n s ks := h2
    have hJ := mrgL_joined g1 g5
    generalize mrgL (opn (sizeL ks) ks) = out at *
    by_cases hs1 : ∃ x, out = [x] ∧ singleB x = true
    · obtain ⟨x, rfl, hx⟩ := hs1
      rw [joinO, if_pos hx] at hd
      subst hd
      exact absurd hx (by simp [singleB, Tr.kind])
    · rw [joinO_two fun x hx => by
        cases hq : singleB x
        · rfl
        · exact absurd ⟨x, hx, hq⟩ hs1] at hd
      injection hd with _ _ _ hd
      rw [← hd]
      exact hJ
end Go.Proofs.YtpogngdddendiaaDoor
