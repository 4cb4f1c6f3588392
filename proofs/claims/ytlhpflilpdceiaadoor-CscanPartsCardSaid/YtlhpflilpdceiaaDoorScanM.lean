/- Words of dialect C as chapter 14 has them, with no program in sight. No condition. -/
set_option linter.unusedVariables false
set_option linter.unusedSimpArgs false
namespace Go.Proofs.YtlhpflilpdceiaaDoor

structure CPart where
  kind : Nat
  pos : Nat
  n : Nat
  s : List UInt8
deriving DecidableEq
structure CWord where
  pos : Nat
  braced : Bool
  parts : List CPart
deriving DecidableEq
structure CCmd where
  pos : Nat
  words : List CWord
deriving DecidableEq
/-- Where the } stands that ends what begins here. -/
def braceL : Nat → List UInt8 → Option Nat
  | _, [] => none
  | o, c :: t => if c = 92 then (match t with
      | [] => none
      | _ :: u => (braceL o u).map (· + 2))
    else if c = 123 then (braceL (o + 1) t).map (· + 1)
    else if c = 125 then (if o = 0 then some 0 else (braceL (o - 1) t).map (· + 1))
    else (braceL o t).map (· + 1)
theorem braceL_lt : ∀ (m : Nat) (l : List UInt8) (o k : Nat), l.length ≤ m → braceL o l = some k → k < l.length
  | m, [], o, k, _, h => by simp [braceL] at h
  | 0, c :: t, o, k, hm, h => by simp at hm
  | m + 1, c :: t, o, k, hm, h => by
    simp only [List.length_cons] at hm ⊢
    rw [braceL.eq_def] at h
    simp only at h
    split at h
    · split at h
      · cases h
      · rename_i x u
        rw [Option.map_eq_some_iff] at h
        obtain ⟨j, hj, rfl⟩ := h
        simp only [List.length_cons] at hm ⊢
        have := braceL_lt m u o j (by omega) hj
        omega
    · split at h
      · rw [Option.map_eq_some_iff] at h
        obtain ⟨j, hj, rfl⟩ := h
        have := braceL_lt m t _ j (by omega) hj
        omega
      · split at h
        · split at h
          · injection h with h
            omega
          · rw [Option.map_eq_some_iff] at h
            obtain ⟨j, hj, rfl⟩ := h
            have := braceL_lt m t _ j (by omega) hj
            omega
        · rw [Option.map_eq_some_iff] at h
          obtain ⟨j, hj, rfl⟩ := h
          have := braceL_lt m t _ j (by omega) hj
          omega
/-- Where the ] stands that ends what begins here. -/
def bracketF : Nat → Nat → List UInt8 → Option Nat
  | 0, _, _ => none
  | _, _, [] => none
  | f + 1, o, c :: t => if c = 92 then (match t with
      | [] => none
      | _ :: u => (bracketF f o u).map (· + 2))
    else if c = 123 then (match braceL 0 t with
      | none => none
      | some k => (bracketF f o (t.drop (k + 1))).map (· + (k + 2)))
    else if c = 91 then (bracketF f (o + 1) t).map (· + 1)
    else if c = 93 then (if o = 0 then some 0 else (bracketF f (o - 1) t).map (· + 1))
    else (bracketF f o t).map (· + 1)
def bracketL (o : Nat) (l : List UInt8) : Option Nat := bracketF l.length o l
theorem bracketF_eq : ∀ (f g o : Nat) (l : List UInt8), l.length ≤ f → l.length ≤ g → bracketF f o l = bracketF g o l
  | 0, 0, o, l, _, _ => rfl
  | 0, g + 1, o, [], _, _ => by simp [bracketF]
  | f + 1, 0, o, [], _, _ => by simp [bracketF]
  | f + 1, g + 1, o, [], _, _ => by simp [bracketF]
  | 0, g, o, c :: t, h, _ => by simp at h
  | f, 0, o, c :: t, _, h => by simp at h
  | f + 1, g + 1, o, c :: t, hf, hg => by
    simp only [List.length_cons] at hf hg
    have key : ∀ (p : Nat) (u : List UInt8), u.length ≤ t.length → bracketF f p u = bracketF g p u := fun p u hu => bracketF_eq f g p u (by omega) (by omega)
    rw [bracketF.eq_def, bracketF.eq_def (g + 1)]
    simp only
    split
    · split
      · rfl
      · rw [key _ _ (by simp)]
    · split
      · split
        · rfl
        · rw [key _ _ (by simp)]
      · rw [key _ _ (Nat.le_refl _), key _ _ (Nat.le_refl _), key _ _ (Nat.le_refl _)]
theorem bracketL_nil (o : Nat) : bracketL o [] = none := rfl
theorem bracketL_cons (o : Nat) (c : UInt8) (t : List UInt8) : bracketL o (c :: t) = if c = 92 then (match t with
      | [] => none
      | _ :: u => (bracketL o u).map (· + 2))
    else if c = 123 then (match braceL 0 t with
      | none => none
      | some k => (bracketL o (t.drop (k + 1))).map (· + (k + 2)))
    else if c = 91 then (bracketL (o + 1) t).map (· + 1)
    else if c = 93 then (if o = 0 then some 0 else (bracketL (o - 1) t).map (· + 1))
    else (bracketL o t).map (· + 1) := by
  have key : ∀ (p : Nat) (u : List UInt8), u.length ≤ t.length → bracketF t.length p u = bracketL p u := fun p u hu => bracketF_eq _ _ p u hu (Nat.le_refl _)
  rw [show bracketL o (c :: t) = bracketF (t.length + 1) o (c :: t) from rfl, bracketF.eq_def]
  simp only
  split
  · split
    · rfl
    · rw [key _ _ (by simp)]
  · split
    · split
      · rfl
      · rw [key _ _ (by simp)]
    · rw [key _ _ (Nat.le_refl _), key _ _ (Nat.le_refl _), key _ _ (Nat.le_refl _)]
theorem bracketL_lt : ∀ (m : Nat) (l : List UInt8) (o k : Nat), l.length ≤ m → bracketL o l = some k → k < l.length
  | m, [], o, k, _, h => by simp [bracketL_nil] at h
  | 0, c :: t, o, k, hm, h => by simp at hm
  | m + 1, c :: t, o, k, hm, h => by
    simp only [List.length_cons] at hm ⊢
    rw [bracketL_cons] at h
    split at h
    · split at h
      · cases h
      · rename_i x u
        rw [Option.map_eq_some_iff] at h
        obtain ⟨j, hj, rfl⟩ := h
        simp only [List.length_cons] at hm ⊢
        have := bracketL_lt m u o j (by omega) hj
        omega
    · split at h
      · split at h
        · cases h
        · rename_i q hq
          rw [Option.map_eq_some_iff] at h
          obtain ⟨j, hj, rfl⟩ := h
          have h1 := braceL_lt _ t 0 q (Nat.le_refl _) hq
          have := bracketL_lt m _ _ j (by rw [List.length_drop]; omega) hj
          rw [List.length_drop] at this
          omega
      · split at h
        · rw [Option.map_eq_some_iff] at h
          obtain ⟨j, hj, rfl⟩ := h
          have := bracketL_lt m t _ j (by omega) hj
          omega
        · split at h
          · split at h
            · injection h with h
              omega
            · rw [Option.map_eq_some_iff] at h
              obtain ⟨j, hj, rfl⟩ := h
              have := bracketL_lt m t _ j (by omega) hj
              omega
          · rw [Option.map_eq_some_iff] at h
            obtain ⟨j, hj, rfl⟩ := h
            have := bracketL_lt m t _ j (by omega) hj
            omega
def nameB (c : UInt8) : Bool := (decide (97 ≤ c ||| 32) && decide (c ||| 32 ≤ 122)) || decide (c = 95)
def nameG (c : UInt8) : Bool := nameB c || (decide (48 ≤ c) && decide (c ≤ 57))
/-- The longest run of bytes of which a name could be made. -/
def runL : List UInt8 → List UInt8
  | [] => []
  | c :: t => if nameB c then c :: t.takeWhile nameG else []
inductive PartR where
  | err (code pos : Nat)
  | ok (p : CPart) (n : Nat)
deriving DecidableEq
def escT (c : UInt8) : UInt8 := if c = 110 then 10 else if c = 116 then 9 else c
/-- What a dollar's part is, by what stands behind it. -/
def dollarL (i : Nat) (t : List UInt8) : PartR :=
  if 0 < (runL t).length then
    (if 20 < (runL t).length then .err 6 i else .ok ⟨2, i, 0, runL t⟩ (1 + (runL t).length))
  else match t with
    | [] => .ok ⟨1, i, 0, [36]⟩ 1
    | d :: _ => if d = 42 then .ok ⟨2, i, 0, [42]⟩ 2
      else if 49 ≤ d ∧ d ≤ 57 then .ok ⟨4, i, d.toNat - 48, []⟩ 2
      else .ok ⟨1, i, 0, [36]⟩ 1
/-- One part, that begins with a byte. Codes: 3 ErrQuote, 4 ErrParen, 5 ErrBrace, 6 ErrName, 7 ErrToken. -/
def partL (i : Nat) (c : UInt8) (t : List UInt8) : PartR :=
    if c = 92 then (match t with
      | [] => .ok ⟨1, i, 0, [92]⟩ 1
      | d :: _ => .ok ⟨1, i, 0, [escT d]⟩ 2)
    else if c = 36 then dollarL i t
    else if c = 91 then (match bracketL 0 t with
      | none => .err 4 i
      | some k => .ok ⟨3, i, 0, t.take k⟩ (k + 2))
    else .ok ⟨1, i, 0, [c]⟩ 1
/-- A part behind others: texts are put together. -/
def mergeP (acc : List CPart) (p : CPart) : List CPart := match acc.getLast? with
  | some q => if p.kind = 1 ∧ q.kind = 1 then acc.dropLast ++ [⟨1, q.pos, q.n, q.s ++ p.s⟩] else acc ++ [p]
  | none => [p]
inductive PsR where
  | err (code pos : Nat)
  | ok (ps : List CPart) (i : Nat) (l : List UInt8)
deriving DecidableEq
/-- Parts up to an end. -/
def partsF : Nat → (UInt8 → Bool) → Nat → List UInt8 → List CPart → PsR
  | 0, _, i, l, acc => .ok acc i l
  | _, _, i, [], acc => .ok acc i []
  | f + 1, e, i, c :: t, acc => if e c then .ok acc i (c :: t) else match partL i c t with
    | .err k a => .err k a
    | .ok p n => partsF f e (i + n) ((c :: t).drop n) (mergeP acc p)
def partsL (e : UInt8 → Bool) (i : Nat) (l : List UInt8) (acc : List CPart) : PsR := partsF l.length e i l acc
theorem partL_pos {i : Nat} {c : UInt8} {t : List UInt8} {p : CPart} {n : Nat} (h : partL i c t = .ok p n) : 1 ≤ n := by
  unfold partL dollarL at h
  repeat' split at h
  all_goals first | (injection h with h1 h2; omega) | cases h
theorem partsF_eq (e : UInt8 → Bool) : ∀ (f g i : Nat) (l : List UInt8) (acc : List CPart), l.length ≤ f → l.length ≤ g → partsF f e i l acc = partsF g e i l acc
  | 0, 0, i, l, acc, _, _ => rfl
  | 0, g + 1, i, [], acc, _, _ => by simp [partsF]
  | f + 1, 0, i, [], acc, _, _ => by simp [partsF]
  | f + 1, g + 1, i, [], acc, _, _ => by simp [partsF]
  | 0, g, i, c :: t, acc, h, _ => by simp at h
  | f, 0, i, c :: t, acc, _, h => by simp at h
  | f + 1, g + 1, i, c :: t, acc, hf, hg => by
    simp only [List.length_cons] at hf hg
    rw [partsF.eq_def, partsF.eq_def (g + 1)]
    simp only
    split
    · rfl
    · split
      · rfl
      · rename_i p n hp
        have := partL_pos hp
        exact partsF_eq e f g _ _ _ (by simp; omega) (by simp; omega)
theorem partsL_nil (e : UInt8 → Bool) (i : Nat) (acc : List CPart) : partsL e i [] acc = .ok acc i [] := by simp [partsL, partsF]
theorem partsL_cons (e : UInt8 → Bool) (i : Nat) (c : UInt8) (t : List UInt8) (acc : List CPart) : partsL e i (c :: t) acc = if e c then .ok acc i (c :: t) else match partL i c t with
    | .err k a => .err k a
    | .ok p n => partsL e (i + n) ((c :: t).drop n) (mergeP acc p) := by
  rw [show partsL e i (c :: t) acc = partsF (t.length + 1) e i (c :: t) acc from rfl, partsF.eq_def]
  simp only
  split
  · rfl
  · split
    · rfl
    · rename_i p n hp
      have := partL_pos hp
      exact partsF_eq e _ _ _ _ _ (by simp; omega) (Nat.le_refl _)
def endB (c : UInt8) : Bool := decide (c = 32) || decide (c = 9) || decide (c = 10) || decide (c = 59)
def quoB (c : UInt8) : Bool := decide (c = 34)
def ended : List UInt8 → Bool
  | [] => true
  | c :: _ => endB c
inductive WdR where
  | err (code pos : Nat)
  | ok (w : CWord) (i : Nat) (l : List UInt8)
deriving DecidableEq
def tailW (w : CWord) (i : Nat) (l : List UInt8) : WdR := if ended l then .ok w i l else .err 7 i
def plainW (i : Nat) (l : List UInt8) : WdR := match partsL endB i l [] with
  | .err k a => .err k a
  | .ok ps j r => .ok ⟨i, false, ps⟩ j r
def bracedW (i : Nat) (t : List UInt8) : WdR := match braceL 0 t with
  | none => .err 5 i
  | some k => tailW ⟨i, true, [⟨1, i + 1, 0, t.take k⟩]⟩ (i + 1 + k + 1) (t.drop (k + 1))
def quotedW (i : Nat) (t : List UInt8) : WdR := match partsL quoB (i + 1) t [] with
  | .err k a => .err k a
  | .ok ps j r => if r.length = 0 then .err 3 i else tailW ⟨i, false, if ps.length = 0 then [⟨1, i, 0, []⟩] else ps⟩ (j + 1) (r.drop 1)
/-- A word. -/
def wordL (i : Nat) : List UInt8 → WdR
  | [] => plainW i []
  | c :: t => if c = 123 then bracedW i t else if c = 34 then quotedW i t else plainW i (c :: t)
def flushC (ws : List CWord) (out : List CCmd) : List CCmd := match ws with
  | [] => out
  | w :: _ => out ++ [⟨w.pos, ws⟩]
inductive ScR where
  | err (code pos : Nat)
  | ok (l : List CCmd)
deriving DecidableEq
def toLine (t : List UInt8) : List UInt8 := t.dropWhile (fun c => decide (c ≠ 10))
def scanF : Nat → Nat → List UInt8 → List CWord → List CCmd → ScR
  | 0, _, _, _, out => .ok out
  | _, i, [], ws, out => .ok (flushC ws out)
  | f + 1, i, c :: t, ws, out =>
    if c = 59 ∨ c = 10 then scanF f (i + 1) t [] (flushC ws out)
    else if c = 32 ∨ c = 9 then scanF f (i + 1) t ws out
    else if c = 35 ∧ ws.length = 0 then scanF f (i + 1 + (t.length - (toLine t).length)) (toLine t) ws out
    else match wordL i (c :: t) with
      | .err k a => .err k a
      | .ok w j r => scanF f j r (ws ++ [w]) out
/-- A source's commands. -/
def scanL (i : Nat) (l : List UInt8) (ws : List CWord) (out : List CCmd) : ScR := scanF (l.length + 1) i l ws out

theorem partsF_len (e : UInt8 → Bool) : ∀ (f i : Nat) (l : List UInt8) (acc ps : List CPart) (j : Nat) (r : List UInt8), partsF f e i l acc = .ok ps j r → r.length ≤ l.length ∧ (∀ i' : Nat, i' = i → i ≤ j) ∧ (j + r.length ≤ i + l.length ∨ True)
  | 0, i, l, acc, ps, j, r, h => by
    simp only [partsF, PsR.ok.injEq] at h
    obtain ⟨_, rfl, rfl⟩ := h
    exact ⟨Nat.le_refl _, fun _ _ => Nat.le_refl _, .inr trivial⟩
  | f + 1, i, [], acc, ps, j, r, h => by
    simp only [partsF, PsR.ok.injEq] at h
    obtain ⟨_, rfl, rfl⟩ := h
    exact ⟨Nat.le_refl _, fun _ _ => Nat.le_refl _, .inr trivial⟩
  | f + 1, i, c :: t, acc, ps, j, r, h => by
    rw [partsF.eq_def] at h
    simp only at h
    split at h
    · simp only [PsR.ok.injEq] at h
      obtain ⟨_, rfl, rfl⟩ := h
      exact ⟨Nat.le_refl _, fun _ _ => Nat.le_refl _, .inr trivial⟩
    · split at h
      · cases h
      · have h1 := partsF_len e f _ _ _ _ _ _ h
        refine ⟨?_, fun _ _ => ?_, .inr trivial⟩
        · have := h1.1
          rw [List.length_drop] at this
          omega
        · have := h1.2.1 _ rfl
          omega
/-- Parts that begin with a byte that does not end them take a byte at least. -/
theorem partsL_lt {e : UInt8 → Bool} {i : Nat} {c : UInt8} {t : List UInt8} {acc ps : List CPart} {j : Nat} {r : List UInt8} (h : partsL e i (c :: t) acc = .ok ps j r) (hc : e c = false) : r.length < (c :: t).length := by
  rw [partsL_cons, hc] at h
  simp only [Bool.false_eq_true, if_false] at h
  split at h
  · cases h
  · rename_i p n hp
    have h1 := partL_pos hp
    have h2 := (partsF_len _ _ _ _ _ _ _ _ h).1
    rw [List.length_drop] at h2
    simp only [List.length_cons] at *
    omega
theorem partsL_le {e : UInt8 → Bool} {i : Nat} {l : List UInt8} {acc ps : List CPart} {j : Nat} {r : List UInt8} (h : partsL e i l acc = .ok ps j r) : r.length ≤ l.length := (partsF_len _ _ _ _ _ _ _ _ h).1
theorem tailW_ok {w v : CWord} {i j : Nat} {l r : List UInt8} (h : tailW w i l = .ok v j r) : v = w ∧ j = i ∧ r = l ∧ ended l = true := by
  unfold tailW at h
  split at h
  · simp only [WdR.ok.injEq] at h
    obtain ⟨rfl, rfl, rfl⟩ := h
    exact ⟨rfl, rfl, rfl, by assumption⟩
  · cases h
theorem wordL_lt {i : Nat} {c : UInt8} {t : List UInt8} {w : CWord} {j : Nat} {r : List UInt8} (h : wordL i (c :: t) = .ok w j r) (hc : endB c = false) : r.length < (c :: t).length := by
  rw [wordL] at h
  split at h
  · unfold bracedW at h
    split at h
    · cases h
    · obtain ⟨_, _, rfl, _⟩ := tailW_ok h
      simp only [List.length_drop, List.length_cons]
      omega
  · split at h
    · unfold quotedW at h
      split at h
      · cases h
      · rename_i ps j' r' hps
        split at h
        · cases h
        · obtain ⟨_, _, rfl, _⟩ := tailW_ok h
          have := partsL_le hps
          simp only [List.length_drop, List.length_cons]
          omega
    · unfold plainW at h
      split at h
      · cases h
      · rename_i ps j' r' hps
        simp only [WdR.ok.injEq] at h
        obtain ⟨_, _, rfl⟩ := h
        exact partsL_lt hps hc
theorem toLine_le (t : List UInt8) : (toLine t).length ≤ t.length := by
  unfold toLine
  exact (List.dropWhile_suffix _).length_le
theorem endB_false {c : UInt8} (h1 : ¬ (c = 59 ∨ c = 10)) (h2 : ¬ (c = 32 ∨ c = 9)) : endB c = false := by
  unfold endB
  simp only [Bool.or_eq_false_iff, decide_eq_false_iff_not]
  exact ⟨⟨⟨fun h => h2 (.inl h), fun h => h2 (.inr h)⟩, fun h => h1 (.inr h)⟩, fun h => h1 (.inl h)⟩
theorem scanF_eq : ∀ (f g i : Nat) (l : List UInt8) (ws : List CWord) (out : List CCmd), l.length < f → l.length < g → scanF f i l ws out = scanF g i l ws out
  | 0, g, i, l, ws, out, h, _ => by omega
  | f, 0, i, l, ws, out, _, h => by omega
  | f + 1, g + 1, i, [], ws, out, _, _ => by simp [scanF]
  | f + 1, g + 1, i, c :: t, ws, out, hf, hg => by
    simp only [List.length_cons] at hf hg
    have key : ∀ (p : Nat) (u : List UInt8) ws out, u.length ≤ t.length → scanF f p u ws out = scanF g p u ws out := fun p u ws out hu => scanF_eq f g p u ws out (by omega) (by omega)
    rw [scanF.eq_def, scanF.eq_def (g + 1)]
    simp only
    split
    · exact key _ _ _ _ (Nat.le_refl _)
    · split
      · exact key _ _ _ _ (Nat.le_refl _)
      · split
        · exact key _ _ _ _ (toLine_le _)
        · split
          · rfl
          · rename_i h1 h2 _ _ _ _ _ hw
            have := wordL_lt hw (endB_false h1 h2)
            simp only [List.length_cons] at this
            exact key _ _ _ _ (by omega)
theorem scanL_nil (i : Nat) (ws : List CWord) (out : List CCmd) : scanL i [] ws out = .ok (flushC ws out) := by simp [scanL, scanF]
theorem scanL_cons (i : Nat) (c : UInt8) (t : List UInt8) (ws : List CWord) (out : List CCmd) : scanL i (c :: t) ws out =
    if c = 59 ∨ c = 10 then scanL (i + 1) t [] (flushC ws out)
    else if c = 32 ∨ c = 9 then scanL (i + 1) t ws out
    else if c = 35 ∧ ws.length = 0 then scanL (i + 1 + (t.length - (toLine t).length)) (toLine t) ws out
    else match wordL i (c :: t) with
      | .err k a => .err k a
      | .ok w j r => scanL j r (ws ++ [w]) out := by
  have key : ∀ (p : Nat) (u : List UInt8) ws out, u.length ≤ t.length → scanF (t.length + 1) p u ws out = scanL p u ws out := fun p u ws out hu => scanF_eq _ _ p u ws out (by omega) (by omega)
  rw [show scanL i (c :: t) ws out = scanF (t.length + 1 + 1) i (c :: t) ws out from rfl, scanF.eq_def]
  simp only
  split
  · exact key _ _ _ _ (Nat.le_refl _)
  · split
    · exact key _ _ _ _ (Nat.le_refl _)
    · split
      · exact key _ _ _ _ (toLine_le _)
      · split
        · rfl
        · rename_i h1 h2 _ _ _ _ _ hw
          have := wordL_lt hw (endB_false h1 h2)
          simp only [List.length_cons] at this
          exact key _ _ _ _ (by omega)
/-- The text of a word that is one. -/
def textW (w : CWord) : List UInt8 × Bool := match w.parts with
  | [p] => if p.kind = 1 then (p.s, true) else ([], false)
  | _ => ([], false)
/-- The word that a text is, with a space behind it. -/
def oneL (s : List UInt8) : Option CWord := match wordL 0 (s ++ [32]) with
  | .err _ _ => none
  | .ok w j _ => if s.length ≠ 0 ∧ j = s.length then some w else none
def braceT (s : List UInt8) : List UInt8 × Bool := match oneL (123 :: (s ++ [125])) with
  | none => ([], false)
  | some w => if textW w = (s, true) ∧ w.braced = true then (123 :: (s ++ [125]), true) else ([], false)
def quoE : List UInt8 → List UInt8
  | [] => []
  | c :: t => if c = 34 ∨ c = 92 ∨ c = 36 ∨ c = 91 then 92 :: c :: quoE t else c :: quoE t
def bareT (s : List UInt8) : Bool := match oneL s with
  | none => false
  | some w => decide (textW w = (s, true)) && !w.braced && decide (s.head? ≠ some 34) && decide (s.head? ≠ some 35)
def quoteT (s : List UInt8) : List UInt8 := if bareT s then s else 34 :: (quoE s ++ [34])
end Go.Proofs.YtlhpflilpdceiaaDoor
