/- A region that draws its order, whose operations make memory of their own, and whose calls do: one walk in the order of the text serves every order, where each operation's fact leans on those alone that it waits for. No condition. -/
import Derived.Test.YtpogngdddendiaaDoorLater
import Derived.Orders
import Derived.Deep.LoopGhost
import Derived.StillTail
set_option linter.unusedVariables false
set_option linter.unusedSimpArgs false
namespace Go.Proofs.YtpogngdddendiaaDoor
open Go.RowKit

/-- What is known of an operation's value: whatever the world; and in a world, and in each that R reaches from it. -/
structure TTR (R : World → World → Prop) where
  pu : Value → Prop
  ne : ∃ v, pu v
  ho : Value → World → Prop
  st : ∀ v x x', ho v x → R x x' → ho v x'
/-- All that was there stands as it stood. -/
abbrev BelR (x x' : World) : Prop := Below x.heap.size x x'
abbrev TT := TTR BelR

/-- It is this value. -/
def eqT {R : World → World → Prop} (c : Value) : TTR R := ⟨fun v => v = c, ⟨c, rfl⟩, fun _ _ => True, fun _ _ _ _ _ => trivial⟩

section
variable {R : World → World → Prop} (P : Program) (ops : Array Oper) (w0 : World) (Tall : List (TTR R))

def depsHold (o : Oper) (vs : List Value) (x : World) : Prop :=
  ∀ e ∈ o.after.toList, Region.binds .any e = true → ∀ (T : TTR R) (v : Value), Tall[e.on]? = some T → vs[e.on]? = some v → T.ho v x

def opGoal (T : TTR R) (o : Oper) (vs : List Value) (a : Act) : Prop :=
  if Region.wanted o (yielded ops a.tmps) = true then
    ∀ x, R w0 x → depsHold Tall o vs x → ∀ K : Act → World → Prop, (∀ v x', T.pu v → T.ho v x' → R x x' → K (a.put o.dst v) x') → o.wp P a x K (fun _ _ _ => False)
  else T.pu undef ∧ ∀ x, T.ho undef x

def RelGo (Q : Act → World → Prop) : List Oper → List (TTR R) → List Value → Act → Prop
  | o :: l, T :: Ts, vs, a => opGoal P ops w0 Tall T o vs a ∧ ∀ v, T.pu v → RelGo Q l Ts (vs ++ [v]) (a.put o.dst v)
  | [], _, vs, a => ∀ x, R w0 x → (∀ (i : Nat) (T : TTR R) (v : Value), Tall[i]? = some T → vs[i]? = some v → T.ho v x) → Q a x
  | _ :: _, [], _, _ => False
end

/-- The order of the text is one that the edges allow; no two operations write one slot; who reads a slot that another writes waits for it, or is waited for. -/
def relB (ops : Array Oper) : Bool :=
  Region.noSelect ops &&
  (List.range ops.size).all fun j => match ops[j]? with
    | none => true
    | some o =>
      (o.after.all fun e => !Region.binds .any e || decide (e.on < j)) &&
      (List.range ops.size).all fun i => match ops[i]? with
        | none => true
        | some q => i == j || match q.dst with
          | none => true
          | some d => (o.dst != some d) &&
            (!(o.looksAt ops).contains d || (if i < j then o.after.any (fun e => Region.binds .any e && e.on == i) else q.after.any (fun e => Region.binds .any e && e.on == j)))

/-- The slots: what has been carried out holds its value, all else is as it was. -/
structure FrameIs (ops : Array Oper) (a0 a : Act) (S : Nat → Prop) (vs : Nat → Value) : Prop where
  size : a.tmps.size = a0.tmps.size
  defers : a.defers = a0.defers
  done : ∀ i o d, ops[i]? = some o → S i → o.dst = some d → d < a0.tmps.size → a.tmps[d]? = some (vs i)
  rest : ∀ t, (∀ i o, ops[i]? = some o → o.dst = some t → ¬ S i) → a.tmps[t]? = a0.tmps[t]?

def Distinct (ops : Array Oper) : Prop := ∀ (i j : Nat) (o q : Oper) (d : Tmp), ops[i]? = some o → ops[j]? = some q → o.dst = some d → q.dst = some d → i = j

theorem FrameIs.start {ops : Array Oper} {a0 : Act} {S : Nat → Prop} {vs : Nat → Value} (h : ∀ i o, ops[i]? = some o → ¬ S i) : FrameIs ops a0 a0 S vs :=
  ⟨rfl, rfl, fun i o d ho hs _ _ => absurd hs (h i o ho), fun _ _ => rfl⟩

theorem FrameIs.put {ops : Array Oper} {a0 a : Act} {S : Nat → Prop} {vs vs' : Nat → Value} (hd : Distinct ops) (h : FrameIs ops a0 a S vs) {j : Nat} {o : Oper} (hj : ops[j]? = some o) (v : Value) (hv : vs' j = v) (hvs : ∀ i, S i → i ≠ j → vs' i = vs i) :
    FrameIs ops a0 (a.put o.dst v) (fun i => S i ∨ i = j) vs' := by
  have hsz : (a.put o.dst v).tmps.size = a.tmps.size := by cases h : o.dst <;> simp [Act.put]
  have hdf : (a.put o.dst v).defers = a.defers := by cases h : o.dst <;> simp [Act.put]
  have hother : ∀ t, o.dst ≠ some t → (a.put o.dst v).tmps[t]? = a.tmps[t]? := by
    intro t ht
    cases h : o.dst with
    | none => rfl
    | some d =>
      have : d ≠ t := fun e => ht (by rw [h, e])
      simp [Act.put, this]
  have hsame : ∀ t, o.dst = some t → t < a.tmps.size → (a.put o.dst v).tmps[t]? = some v := by
    intro t ht hlt
    rw [ht]
    simp [Act.put, hlt]
  refine ⟨hsz.trans h.size, hdf.trans h.defers, ?_, ?_⟩
  · intro i q d hi hS hqd hlt
    by_cases hij : i = j
    · subst hij
      rw [hj] at hi
      injection hi with hi
      subst hi
      rw [hsame d hqd (by rw [h.size]; exact hlt), hv]
    · rw [hother d (fun e => hij (hd i j q o d hi hj hqd e)), h.done i q d hi (hS.resolve_right hij) hqd hlt, hvs i (hS.resolve_right hij) hij]
  · intro t ht
    rw [hother t (fun e => ht j o hj e (.inr rfl))]
    exact h.rest t (fun i q hi hq hS => ht i q hi hq (.inl hS))

theorem FrameIs.agree {ops : Array Oper} {a0 a b : Act} {S S' : Nat → Prop} {vs vs' : Nat → Value} (hd : Distinct ops) (h : FrameIs ops a0 a S vs) (h' : FrameIs ops a0 b S' vs') (t : Nat)
    (ht : ∀ i o, ops[i]? = some o → o.dst = some t → (S i ∧ S' i ∧ vs i = vs' i) ∨ (¬ S i ∧ ¬ S' i)) : a.tmps[t]? = b.tmps[t]? := by
  by_cases hex : ∃ i o, ops[i]? = some o ∧ o.dst = some t ∧ S i
  · obtain ⟨i, o, hi, ho, hS⟩ := hex
    rcases ht i o hi ho with ⟨_, hS', hv⟩ | ⟨hn, _⟩
    · by_cases hlt : t < a0.tmps.size
      · rw [h.done i o t hi hS ho hlt, h'.done i o t hi hS' ho hlt, hv]
      · rw [Array.getElem?_eq_none (by rw [h.size]; omega), Array.getElem?_eq_none (by rw [h'.size]; omega)]
    · exact absurd hS hn
  · have hn : ∀ i o, ops[i]? = some o → o.dst = some t → ¬ S i := fun i o hi ho hS => hex ⟨i, o, hi, ho, hS⟩
    rw [h.rest t hn, h'.rest t (fun i o hi ho hS' => ?_)]
    rcases ht i o hi ho with ⟨hS, _, _⟩ | ⟨_, hn'⟩
    · exact hn i o hi ho hS
    · exact hn' hS'

theorem eval_agree {a b : Act} {o : Oper} {ops : Array Oper} (hs : ∀ cs b, o.op ≠ .select cs b) (h : ∀ t ∈ o.looksAt ops, a.tmps[t]? = b.tmps[t]?) :
    execOp a.eval o = execOp b.eval o ∧ Region.wanted o (yielded ops a.tmps) = Region.wanted o (yielded ops b.tmps) := by
  constructor
  · refine execOp_congr o hs fun x hx => ?_
    cases x with
    | tmp t =>
      have := h t (List.mem_append_left _ (List.mem_filterMap.2 ⟨.tmp t, by simpa using hx, rfl⟩))
      show a.tmps.getD t undef = b.tmps.getD t undef
      rw [Array.getD_eq_getD_getElem?, Array.getD_eq_getD_getElem?, this]
    | const v => rfl
    | global g => rfl
    | func f => rfl
  · unfold Region.wanted
    cases hg : o.guard with
    | none => rfl
    | some gw =>
      obtain ⟨g, want⟩ := gw
      have hy : yielded ops a.tmps g = yielded ops b.tmps g := by
        unfold yielded
        cases hq : (ops[g]?).bind (·.dst) with
        | none => rfl
        | some d =>
          have := h d (List.mem_append_right _ (by simp [hg, hq]))
          simp only [Option.bind_some, this]
      simp only [hy]

/-- Same frame, same writes. -/
theorem put_same {a b : Act} (hs : a.tmps.size = b.tmps.size) {dst : Option Tmp} {v v' : Value} (h : b.put dst v = b.put dst v') : a.put dst v = a.put dst v' := by
  cases dst with
  | none => rfl
  | some d =>
    by_cases hd : d < b.tmps.size
    · have h1 := congrArg (fun c : Act => c.tmps[d]?) h
      simp [Act.put, hd] at h1
      rw [h1]
    · have hle : a.tmps.size ≤ d := by rw [hs]; exact Nat.le_of_not_lt hd
      have : ∀ u, a.put (some d) u = a := fun u => by
        simp only [Act.put]
        rw [Array.setIfInBounds_eq_of_size_le hle]
      rw [this, this]

/-- One operation, at a frame that agrees with the lexical one. -/
theorem upon_agree {R : World → World → Prop} {P : Program} {o : Oper} {a b : Act} {x : World} {T : TTR R} {K : Act → World → Prop} {Q : Exit → Act → World → Prop} (hs : a.tmps.size = b.tmps.size) (hdf : a.defers = b.defers)
    (he : execOp a.eval o = execOp b.eval o)
    (h : ∀ K : Act → World → Prop, (∀ v x', T.pu v → T.ho v x' → R x x' → K (b.put o.dst v) x') → o.wp P b x K (fun _ _ _ => False))
    (hK : ∀ v x', T.pu v → T.ho v x' → R x x' → K (a.put o.dst v) x') : o.wp P a x K Q := by
  have h1 := h (fun c x' => ∃ v, c = b.put o.dst v ∧ T.pu v ∧ T.ho v x' ∧ R x x') (fun v x' h1 h2 h3 => ⟨v, rfl, h1, h2, h3⟩)
  have key : ∀ v x', (∃ v', b.put o.dst v = b.put o.dst v' ∧ T.pu v' ∧ T.ho v' x' ∧ R x x') → K (a.put o.dst v) x' := by
    rintro v x' ⟨v', e, h1, h2, h3⟩
    rw [put_same hs e]
    exact hK v' x' h1 h2 h3
  unfold Oper.wp at h1 ⊢
  rw [he]
  generalize (execOp b.eval o).run P x = r at h1 ⊢
  cases r with
  | ok n w' =>
    cases n with
    | value v => exact key v w' h1
    | skip => exact key undef w' h1
    | defer d =>
      obtain ⟨v, e, _⟩ := h1
      exfalso
      have := congrArg (fun c : Act => c.defers.length) e
      cases hdst : o.dst <;> simp [Act.put, hdst] at this
    | enter f args =>
      refine Calls.mono h1 ?_
      intro e w'' h2
      cases e with
      | returned v => exact key v w'' h2
      | panicked c => exact h2.elim
      | outgrown => obtain ⟨_, _, h3⟩ := h2; exact h3.elim
    | row row args => exact Rows.mono h1 fun v w'' h2 => key v w'' h2
    | _ => exact h1.elim
  | halt hh w' =>
    cases hh with
    | panic v => exact h1.elim
    | _ => exact h1.elim

section
variable {R : World → World → Prop} {P : Program} {ops : Array Oper} {w0 : World} {Tall : List (TTR R)} {Q : Act → World → Prop}

/-- What the lexical walk says of its j-th operation, whatever the values ahead of it. -/
theorem relGo_at (hd : Distinct ops) (hlen : Tall.length = ops.size) : ∀ (l : List Oper) (Ts : List (TTR R)) (k : Nat) (vs : List Value) (a0 a : Act) (us : Nat → Value), (∀ j : Nat, l[j]? = ops[k + j]?) → (∀ j : Nat, Ts[j]? = Tall[k + j]?) → vs.length = k →
    (∀ i : Nat, i < k → vs[i]? = some (us i)) → FrameIs ops a0 a (fun i => i < k) us → (∀ (i : Nat) (T : TTR R), Tall[i]? = some T → T.pu (us i)) → RelGo P ops w0 Tall Q l Ts vs a →
    (∀ (j : Nat) (o : Oper) (T : TTR R), k ≤ j → ops[j]? = some o → Tall[j]? = some T → ∃ (vs' : List Value) (b : Act), (∀ i, i < j → vs'[i]? = some (us i)) ∧ FrameIs ops a0 b (fun i => i < j) us ∧ opGoal P ops w0 Tall T o vs' b) ∧
    ∃ (vs' : List Value) (b : Act), (∀ i, i < ops.size → vs'[i]? = some (us i)) ∧ FrameIs ops a0 b (fun i => i < ops.size) us ∧ ∀ x, R w0 x → (∀ (i : Nat) (T : TTR R) (v : Value), Tall[i]? = some T → vs'[i]? = some v → T.ho v x) → Q b x := by
  intro l
  induction l with
  | nil =>
    intro Ts k vs a0 a us hl hT hk hvs hf hpu h
    have hsz : ops.size ≤ k := by
      have := hl 0
      simp at this
      exact this
    refine ⟨fun j o T hj ho _ => ?_, vs, a, fun i hi => hvs i (by omega), ⟨hf.size, hf.defers, fun i o d ho hS => hf.done i o d ho (show i < k by have : i < ops.size := hS; omega), fun t ht => hf.rest t (fun i o ho hdst hS => ht i o ho hdst ((Array.getElem?_eq_some_iff.1 ho).1))⟩, h⟩
    have := (Array.getElem?_eq_some_iff.1 ho).1
    omega
  | cons o l ih =>
    intro Ts k vs a0 a us hl hT hk hvs hf hpu h
    have ho : ops[k]? = some o := by simpa using (hl 0).symm
    cases Ts with
    | nil => exact h.elim
    | cons T Ts =>
      have hTk : Tall[k]? = some T := by simpa using (hT 0).symm
      obtain ⟨h1, h2⟩ := h
      have hrec := ih Ts (k + 1) (vs ++ [us k]) a0 (a.put o.dst (us k)) us (fun j => by have := hl (j + 1); simpa [Nat.add_assoc, Nat.add_comm 1 j] using this) (fun j => by have := hT (j + 1); simpa [Nat.add_assoc, Nat.add_comm 1 j] using this) (by simp [hk])
        (fun i hi => by
          by_cases hik : i < k
          · rw [List.getElem?_append_left (by omega)]; exact hvs i hik
          · have : i = k := by omega
            subst this
            rw [List.getElem?_append_right (by omega), hk]; simp)
        (by
          have := hf.put hd ho (vs' := us) (us k) rfl (fun _ _ _ => rfl)
          exact ⟨this.size, this.defers, fun i q d hq hS => this.done i q d hq (by have hS' : i < k + 1 := hS; show i < k ∨ i = k; omega), fun t ht => this.rest t (fun i q hq hdst hS => ht i q hq hdst (by have hS' : i < k ∨ i = k := hS; show i < k + 1; omega))⟩)
        hpu (h2 (us k) (hpu k T hTk))
      refine ⟨fun j o' T' hj ho' hT' => ?_, hrec.2⟩
      by_cases hjk : j = k
      · subst hjk
        rw [ho] at ho'
        injection ho' with ho'
        subst ho'
        rw [hTk] at hT'
        injection hT' with hT'
        subst hT'
        exact ⟨vs, a, hvs, hf, h1⟩
      · exact hrec.1 j o' T' (by omega) ho' hT'
end

theorem relB_spec {ops : Array Oper} (h : relB ops = true) :
    (∀ (j : Nat) (o : Oper) cs b, ops[j]? = some o → o.op ≠ .select cs b) ∧ Distinct ops ∧ (∀ (j : Nat) (o : Oper), ops[j]? = some o → ∀ e ∈ o.after, Region.binds .any e = true → e.on < j) ∧
    ∀ (i j : Nat) (q o : Oper) (d : Tmp), ops[i]? = some q → ops[j]? = some o → i ≠ j → q.dst = some d → d ∈ o.looksAt ops →
      (i < j ∧ ∃ e ∈ o.after, Region.binds .any e = true ∧ e.on = i) ∨ (j < i ∧ ∃ e ∈ q.after, Region.binds .any e = true ∧ e.on = j) := by
  simp only [relB, Bool.and_eq_true, List.all_eq_true, List.mem_range] at h
  obtain ⟨h1, h2⟩ := h
  have key : ∀ (i j : Nat) (q o : Oper) (d : Tmp), ops[i]? = some q → ops[j]? = some o → i ≠ j → q.dst = some d → o.dst ≠ some d ∧ (d ∈ o.looksAt ops → if i < j then o.after.any (fun e => Region.binds .any e && e.on == i) = true else q.after.any (fun e => Region.binds .any e && e.on == j) = true) := by
    intro i j q o d hi hj hne hd
    have h3 := h2 j (Array.getElem?_eq_some_iff.1 hj).1
    simp only [hj, Bool.and_eq_true, List.all_eq_true, List.mem_range] at h3
    have h4 := h3.2 i (Array.getElem?_eq_some_iff.1 hi).1
    simp only [hi, hd, Bool.or_eq_true, beq_iff_eq, Bool.and_eq_true, bne_iff_ne, ne_eq, Bool.not_eq_true'] at h4
    rcases h4 with h4 | ⟨h5, h6⟩
    · exact absurd h4 hne
    · refine ⟨h5, fun hm => ?_⟩
      rcases h6 with h6 | h6
      · exfalso
        have : (o.looksAt ops).contains d = true := by simpa using hm
        rw [h6] at this; cases this
      · split
        · rename_i hlt; simpa [hlt] using h6
        · rename_i hlt; simpa [hlt] using h6
  refine ⟨fun j o cs b ho => Region.noSelect_spec h1 j o cs b ho, ?_, ?_, ?_⟩
  · intro i j o q d hi hj ho hq
    rcases Nat.decEq i j with hne | heq
    · exact absurd hq (key i j o q d hi hj hne ho).1
    · exact heq
  · intro j o hj e he hb
    have h3 := h2 j (Array.getElem?_eq_some_iff.1 hj).1
    simp only [hj, Bool.and_eq_true] at h3
    have h4 := Array.all_eq_true_iff_forall_mem.1 h3.1 e he
    simpa [hb] using h4
  · intro i j q o d hi hj hne hd hm
    have h3 := (key i j q o d hi hj hne hd).2 hm
    split at h3
    · rename_i hlt
      obtain ⟨e, he, hb⟩ := Array.any_eq_true'.1 h3
      simp only [Bool.and_eq_true, beq_iff_eq] at hb
      exact .inl ⟨hlt, e, he, hb.1, hb.2⟩
    · rename_i hlt
      obtain ⟨e, he, hb⟩ := Array.any_eq_true'.1 h3
      simp only [Bool.and_eq_true, beq_iff_eq] at hb
      exact .inr ⟨by omega, e, he, hb.1, hb.2⟩

theorem frame_eq {ops : Array Oper} {a0 a b : Act} {S S' : Nat → Prop} {us : Nat → Value} (hd : Distinct ops) (h : FrameIs ops a0 a S us) (h' : FrameIs ops a0 b S' us) (hS : ∀ i o, ops[i]? = some o → S i ∧ S' i) : a = b := by
  have ht : a.tmps = b.tmps := by
    apply Array.ext_getElem?
    intro t
    exact h.agree hd h' t (fun i o hi _ => .inl ⟨(hS i o hi).1, (hS i o hi).2, rfl⟩)
  have hdf : a.defers = b.defers := h.defers.trans h'.defers.symm
  cases a; cases b
  simp only at ht hdf
  rw [ht, hdf]

theorem wp_region_relR {R : World → World → Prop} (hrefl : ∀ x, R x x) (htrans : ∀ {x y z}, R x y → R y z → R x z) {P : Program} {id : Nat} {Q : Exit → Act → World → Prop} {a : Act} {w : World} {l : List Oper} (hdrew : R w { w with drawn := w.drawn + 1 }) (Ts : List (TTR R)) (hm : P.follows .mixedOrders = true) (hB : relB l.toArray = true) (hlen : Ts.length = l.length)
    (h : RelGo P l.toArray w Ts (fun a' x => Q .normal a' x) l Ts [] a) : (Code.region id l.toArray true).wp P Q a w := by
  obtain ⟨hsel, hd, hedge, hlook⟩ := relB_spec hB
  have hTlen : Ts.length = l.toArray.size := by simpa using hlen
  generalize hops : l.toArray = ops at *
  have hl : ∀ j : Nat, l[j]? = ops[0 + j]? := fun j => by rw [← hops]; simp
  have hpu0 : ∃ us : Nat → Value, ∀ (i : Nat) (T : TTR R), Ts[i]? = some T → T.pu (us i) := by
    refine ⟨fun i => match Ts[i]? with | some T => Classical.choose T.ne | none => undef, fun i T hT => ?_⟩
    simp only [hT]
    exact Classical.choose_spec T.ne
  obtain ⟨us0, hus0⟩ := hpu0
  refine wp_region_any hm ?_
  suffices H : ∀ (fuel : Nat) (listed : Array Bool) (a' : Act) (x : World) (us : Nat → Value), listed.size = ops.size → listed.toList.count false = fuel → R w x →
      FrameIs ops a a' (fun i => listed[i]? = some true) us → (∀ (i : Nat) (T : TTR R), Ts[i]? = some T → T.pu (us i)) → (∀ (i : Nat) (T : TTR R), Ts[i]? = some T → listed[i]? = some true → T.ho (us i) x) →
      (∀ (k : Nat) (q : Oper), ops[k]? = some q → listed[k]? = some true → ∀ e ∈ q.after, Region.binds .any e = true → listed[e.on]? = some true) → wpAny P .any ops Q fuel listed a' x by
    refine H ops.size _ _ _ us0 (by simp) (by simp) hdrew (FrameIs.start fun i o hi => by
      have := (Array.getElem?_eq_some_iff.1 hi).1
      simp [this]) hus0 ?_ ?_
    · intro i T _ hi; simp [Array.getElem?_replicate] at hi
    · intro k q _ hi; simp [Array.getElem?_replicate] at hi
  intro fuel
  induction fuel with
  | zero =>
    intro listed a' x us hsz hcnt hbel hf hpu hho hcl
    have hall : ∀ i, i < ops.size → listed[i]? = some true := by
      intro i hi
      have hi' : i < listed.toList.length := by simp; omega
      have hmem : listed.toList[i] ∈ listed.toList := List.getElem_mem _
      have hne : listed.toList[i] ≠ false := fun e => by
        rw [e] at hmem
        have := List.count_pos_iff.2 hmem
        omega
      have : listed.toList[i] = true := by simpa using hne
      rw [Array.getElem?_eq_getElem (by omega)]
      simpa using this
    refine ⟨?_, ?_⟩
    · rw [List.eq_nil_iff_forall_not_mem]
      intro j hj
      obtain ⟨h0, o, ho, _⟩ := mem_ready.1 hj
      have hj' := hall j (Array.getElem?_eq_some_iff.1 ho).1
      rw [Array.getD_eq_getD_getElem?, hj'] at h0
      cases h0
    · obtain ⟨_, vs', b, hvs, hfb, hq⟩ := relGo_at hd hTlen l Ts 0 [] a a us hl (fun j => by simp) rfl (fun i hi => by omega) (FrameIs.start fun i o _ => Nat.not_lt_zero i) hpu h
      have hab : a' = b := frame_eq hd hf hfb fun i o hi => ⟨hall i (Array.getElem?_eq_some_iff.1 hi).1, (Array.getElem?_eq_some_iff.1 hi).1⟩
      rw [hab]
      refine hq x hbel fun i T v hT hv => ?_
      have hi : i < ops.size := by rw [← hTlen]; exact (List.getElem?_eq_some_iff.1 hT).1
      rw [hvs i hi] at hv
      injection hv with hv
      rw [← hv]
      exact hho i T hT (hall i hi)
  | succ fuel ih =>
    intro listed a' x us hsz hcnt hbel hf hpu hho hcl
    refine ⟨fun hr => ?_, fun i hi => ?_⟩
    · exfalso
      have hex : ∃ n, n < ops.size ∧ listed[n]? ≠ some true := by
        have hmem : false ∈ listed.toList := List.count_pos_iff.1 (by omega)
        obtain ⟨n, hn, hnv⟩ := List.mem_iff_getElem.1 hmem
        refine ⟨n, by simp at hn; omega, ?_⟩
        rw [Array.getElem?_eq_getElem (by simpa using hn)]
        simp at hnv
        simp [hnv]
      obtain ⟨n, ⟨hn, hnl⟩, hmin⟩ := exists_least hex
      have hon : ∃ o, ops[n]? = some o := ⟨ops[n], Array.getElem?_eq_getElem hn⟩
      obtain ⟨o, ho⟩ := hon
      have hmr : n ∈ Region.ready .any ops listed := by
        refine mem_ready.2 ⟨?_, o, ho, fun e he hb => ?_⟩
        · rw [Array.getD_eq_getD_getElem?, Array.getElem?_eq_getElem (by omega)] 
          rw [Array.getElem?_eq_getElem (by omega)] at hnl
          simpa using hnl
        · have hlt := hedge n o ho e he hb
          have : listed[e.on]? = some true := by
            rcases Classical.em (listed[e.on]? = some true) with h1 | h1
            · exact h1
            · have := hmin e.on ⟨by omega, h1⟩; omega
          rw [Array.getD_eq_getD_getElem?, this]; rfl
      rw [hr] at hmr
      cases hmr
    · obtain ⟨h0, o, ho, hall⟩ := mem_ready.1 hi
      have hin : i < ops.size := (Array.getElem?_eq_some_iff.1 ho).1
      have hil : listed[i]? = some false := by
        rw [Array.getD_eq_getD_getElem?, Array.getElem?_eq_getElem (by omega)] at h0
        rw [Array.getElem?_eq_getElem (by omega)]
        simpa using h0
      have hpred : ∀ e ∈ o.after, Region.binds .any e = true → listed[e.on]? = some true := fun e he hb => by
        have h1 := hall e he hb
        have hlt := hedge i o ho e he hb
        rw [Array.getD_eq_getD_getElem?, Array.getElem?_eq_getElem (by omega)] at h1
        rw [Array.getElem?_eq_getElem (by omega)]
        simpa using h1
      obtain ⟨T, hT⟩ : ∃ T, Ts[i]? = some T := ⟨Ts[i]'(by omega), List.getElem?_eq_getElem (by omega)⟩
      obtain ⟨vs', b, hvs, hfb, hop⟩ := (relGo_at hd hTlen l Ts 0 [] a a us hl (fun j => by simp) rfl (fun i hi => by omega) (FrameIs.start fun i o _ => Nat.not_lt_zero i) hpu h).1 i o T (Nat.zero_le _) ho hT
      have hag := eval_agree (a := a') (b := b) (ops := ops) (fun cs b => hsel i o cs b ho) (fun t ht => by
        refine hf.agree hd hfb t fun k q hk hq => ?_
        by_cases hki : k = i
        · subst hki
          exact .inr ⟨(fun e => (by rw [hil] at e; cases e)), Nat.lt_irrefl _⟩
        · rcases hlook k i q o t hk ho hki hq ht with ⟨hlt, e, he, hb, hon⟩ | ⟨hlt, e, he, hb, hon⟩
          · exact .inl ⟨hon ▸ hpred e he hb, hlt, rfl⟩
          · exact .inr ⟨(fun hS => (by
              have := hcl k q hk hS e he hb
              rw [hon, hil] at this; cases this)), by omega⟩)
      have next : ∀ v x', T.pu v → T.ho v x' → R x x' → wpAny P .any ops Q fuel (listed.setIfInBounds i true) (a'.put o.dst v) x' := by
        intro v x' hpv hhv hbx
        refine ih _ _ _ (fun k => if k = i then v else us k) (by simpa using hsz) ?_ (htrans hbel hbx) ?_ ?_ ?_ ?_
        · have hil' : listed.toList[i]'(by simp; omega) = false := by
            rw [Array.getElem?_eq_getElem (by omega)] at hil
            simpa using hil
          rw [Array.toList_setIfInBounds, List.count_set (by simp; omega), hil', hcnt]
          simp
        · have := hf.put hd ho (vs' := fun k => if k = i then v else us k) v (by simp) (fun k _ hk => by simp [hk])
          refine ⟨this.size, this.defers, fun k q d hk hS => this.done k q d hk ?_, fun t ht => this.rest t fun k q hk hq hS => ht k q hk hq ?_⟩
          · by_cases hki : k = i
            · exact .inr hki
            · rw [Array.getElem?_setIfInBounds_ne (by omega)] at hS; exact .inl hS
          · rcases hS with hS | rfl
            · by_cases hki : k = i
              · subst hki; rw [hil] at hS; cases hS
              · rw [Array.getElem?_setIfInBounds_ne (by omega)]; exact hS
            · rw [Array.getElem?_setIfInBounds_self_of_lt (by omega)]
        · intro k T' hT'
          by_cases hki : k = i
          · subst hki
            rw [hT] at hT'; injection hT' with hT'; subst hT'
            simpa using hpv
          · simpa [hki] using hpu k T' hT'
        · intro k T' hT' hS
          by_cases hki : k = i
          · subst hki
            rw [hT] at hT'; injection hT' with hT'; subst hT'
            simpa using hhv
          · rw [Array.getElem?_setIfInBounds_ne (by omega)] at hS
            simp only [hki, if_false]
            exact T'.st _ _ _ (hho k T' hT' hS) hbx
        · intro k q hk hS e he hb
          by_cases hki : k = i
          · subst hki
            rw [ho] at hk; injection hk with hk; subst hk
            have hlt := hedge k o ho e he hb
            rw [Array.getElem?_setIfInBounds_ne (by omega)]
            exact hpred e he hb
          · rw [Array.getElem?_setIfInBounds_ne (by omega)] at hS
            have := hcl k q hk hS e he hb
            by_cases hei : e.on = i
            · rw [hei, hil] at this; cases this
            · rw [Array.getElem?_setIfInBounds_ne (by omega)]; exact this
      unfold wpOp
      simp only [ho]
      unfold opGoal at hop
      rw [hag.2]
      split
      · rename_i hw
        rw [if_pos hw] at hop
        refine .inl (upon_agree (hf.size.trans hfb.size.symm) (hf.defers.trans hfb.defers.symm) hag.1 (hop x hbel ?_) next)
        intro e he hb T' v hT' hv
        have hlt := hedge i o ho e (by simpa using he) hb
        rw [hvs e.on hlt] at hv
        injection hv with hv
        rw [← hv]
        exact hho e.on T' hT' (hpred e (by simpa using he) hb)
      · rename_i hw
        rw [if_neg hw] at hop
        exact next undef x hop.1 (hop.2 x) (hrefl _)
theorem wp_region_rel {P : Program} {id : Nat} {Q : Exit → Act → World → Prop} {a : Act} {w : World} {l : List Oper} (Ts : List TT) (hm : P.follows .mixedOrders = true) (hB : relB l.toArray = true) (hlen : Ts.length = l.length)
    (h : RelGo P l.toArray w Ts (fun a' x => Q .normal a' x) l Ts [] a) : (Code.region id l.toArray true).wp P Q a w :=
  wp_region_relR (R := BelR) (fun _ => Below.refl _ _) (fun h1 h2 => h1.trans (h2.mono h1.size)) ((Below.refl _ _).drew) Ts hm hB hlen h
theorem not_true {b : Bool} (h : b = false) : ¬ b = true := by rw [h]; exact Bool.noConfusion
section
variable (P : Program) (ops : Array Oper) (w0 : World)
/-- Each operation has one value, whatever the world behind w0. -/
def EqGo (Q : Act → World → Prop) : List Oper → Act → Prop
  | o :: l, a => ∃ c : Value, (if Region.wanted o (yielded ops a.tmps) = true then ∀ (x : Later w0) (K : Act → World → Prop), (∀ y : Later w0, Below x.val.heap.size x.val y.val → K (a.put o.dst c) y.val) → o.wp P a x.val K (fun _ _ _ => False) else c = undef) ∧ EqGo Q l (a.put o.dst c)
  | [], a => ∀ x : Later w0, Q a x.val
end
section
variable {P : Program} {ops : Array Oper} {w0 : World} {Q : Act → World → Prop} {o : Oper} {l : List Oper} {a : Act}
theorem EqGo.rel : ∀ (l : List Oper) (a : Act), EqGo P ops w0 Q l a → ∃ Ts : List TT, Ts.length = l.length ∧ ∀ Tall vs, RelGo P ops w0 Tall Q l Ts vs a
  | [], a, h => ⟨[], rfl, fun Tall vs x hb _ => h ⟨x, hb⟩⟩
  | o :: l, a, ⟨c, h1, h2⟩ => by
    obtain ⟨Ts, hl, hr⟩ := EqGo.rel l _ h2
    refine ⟨eqT c :: Ts, by simp [hl], fun Tall vs => ⟨?_, ?_⟩⟩
    · unfold opGoal
      split
      · rename_i hw
        rw [if_pos hw] at h1
        intro x hb _ K hk
        exact h1 ⟨x, hb⟩ K fun y hy => hk c y.val rfl trivial hy
      · rename_i hw
        rw [if_neg hw] at h1
        exact ⟨h1.symm, fun _ => trivial⟩
    · rintro v rfl
      exact hr Tall _
theorem EqGo.run {c : Value} (hw : Region.wanted o (yielded ops a.tmps) = true) (h1 : ∀ (x : Later w0) (K : Act → World → Prop), (∀ y : Later w0, Below x.val.heap.size x.val y.val → K (a.put o.dst c) y.val) → o.wp P a x.val K (fun _ _ _ => False)) (h2 : EqGo P ops w0 Q l (a.put o.dst c)) : EqGo P ops w0 Q (o :: l) a :=
  ⟨c, by rw [if_pos hw]; exact h1, h2⟩
theorem EqGo.skip (hw : Region.wanted o (yielded ops a.tmps) = false) (h2 : EqGo P ops w0 Q l (a.put o.dst undef)) : EqGo P ops w0 Q (o :: l) a :=
  ⟨undef, by rw [if_neg (not_true hw)], h2⟩
end
theorem wp_region_eq {P : Program} {id : Nat} {Q : Exit → Act → World → Prop} {a : Act} {w : World} {l : List Oper} (hm : P.follows .mixedOrders = true) (hB : relB l.toArray = true)
    (h : EqGo P l.toArray w (fun a' x => Q .normal a' x) l a) : (Code.region id l.toArray true).wp P Q a w := by
  obtain ⟨Ts, hl, hr⟩ := h.rel
  exact wp_region_rel Ts hm hB hl (hr Ts [])
end Go.Proofs.YtpogngdddendiaaDoor

/- A region that draws its order and ends in operations that wait for all others (an append, a store): one walk in the order of the text ahead of these, and a plain walk over these. No condition. -/
set_option linter.unusedVariables false
set_option linter.unusedSimpArgs false
namespace Go.Proofs.YtpogngdddendiaaDoor
open Go.RowKit

section
variable {R : World → World → Prop} {P : Program} {ops : Array Oper} {w0 : World} {Tall : List (TTR R)} {Q : Act → World → Prop}
theorem relGo_head (hd : Distinct ops) {n : Nat} (hlen : Tall.length = n) : ∀ (l : List Oper) (Ts : List (TTR R)) (k : Nat) (vs : List Value) (a0 a : Act) (us : Nat → Value), k + l.length = n → (∀ j : Nat, j < l.length → l[j]? = ops[k + j]?) → (∀ j : Nat, Ts[j]? = Tall[k + j]?) → vs.length = k →
    (∀ i : Nat, i < k → vs[i]? = some (us i)) → FrameIs ops a0 a (fun i => i < k) us → (∀ (i : Nat) (T : TTR R), Tall[i]? = some T → T.pu (us i)) → RelGo P ops w0 Tall Q l Ts vs a →
    (∀ (j : Nat) (o : Oper) (T : TTR R), k ≤ j → j < n → ops[j]? = some o → Tall[j]? = some T → ∃ (vs' : List Value) (b : Act), (∀ i, i < j → vs'[i]? = some (us i)) ∧ FrameIs ops a0 b (fun i => i < j) us ∧ opGoal P ops w0 Tall T o vs' b) ∧
    ∃ (vs' : List Value) (b : Act), (∀ i, i < n → vs'[i]? = some (us i)) ∧ FrameIs ops a0 b (fun i => i < n) us ∧ ∀ x, R w0 x → (∀ (i : Nat) (T : TTR R) (v : Value), Tall[i]? = some T → vs'[i]? = some v → T.ho v x) → Q b x := by
  intro l
  induction l with
  | nil =>
    intro Ts k vs a0 a us hkn hl hT hk hvs hf hpu h
    have hkn' : k = n := by simpa using hkn
    subst hkn'
    exact ⟨fun j o T hj hjn => by omega, vs, a, hvs, hf, h⟩
  | cons o l ih =>
    intro Ts k vs a0 a us hkn hl hT hk hvs hf hpu h
    have ho : ops[k]? = some o := by simpa using (hl 0 (by simp)).symm
    cases Ts with
    | nil => exact h.elim
    | cons T Ts =>
      have hTk : Tall[k]? = some T := by simpa using (hT 0).symm
      obtain ⟨h1, h2⟩ := h
      have hrec := ih Ts (k + 1) (vs ++ [us k]) a0 (a.put o.dst (us k)) us (by simp at hkn; omega) (fun j hj => by have := hl (j + 1) (by simp; omega); simpa [Nat.add_assoc, Nat.add_comm 1 j] using this) (fun j => by have := hT (j + 1); simpa [Nat.add_assoc, Nat.add_comm 1 j] using this) (by simp [hk])
        (fun i hi => by
          by_cases hik : i < k
          · rw [List.getElem?_append_left (by omega)]; exact hvs i hik
          · have : i = k := by omega
            subst this
            rw [List.getElem?_append_right (by omega), hk]; simp)
        (by
          have := hf.put hd ho (vs' := us) (us k) rfl (fun _ _ _ => rfl)
          exact ⟨this.size, this.defers, fun i q d hq hS => this.done i q d hq (by have hS' : i < k + 1 := hS; show i < k ∨ i = k; omega), fun t ht => this.rest t (fun i q hq hdst hS => ht i q hq hdst (by have hS' : i < k ∨ i = k := hS; show i < k + 1; omega))⟩)
        hpu (h2 (us k) (hpu k T hTk))
      refine ⟨fun j o' T' hj hjn ho' hT' => ?_, hrec.2⟩
      by_cases hjk : j = k
      · subst hjk
        rw [ho] at ho'
        injection ho' with ho'
        subst ho'
        rw [hTk] at hT'
        injection hT' with hT'
        subst hT'
        exact ⟨vs, a, hvs, hf, h1⟩
      · exact hrec.1 j o' T' (by omega) hjn ho' hT'
end

def headListed (n m : Nat) : Array Bool := (List.replicate n true ++ List.replicate m false).toArray
/-- The operations from n on wait for all others, one behind the other. -/
def tailB (ops : Array Oper) (n : Nat) : Bool := decide (n < ops.size) && Region.sinkB .any ops n && Region.chainB .any ops n && Region.seqB .any ops (ops.size - n) n (headListed n (ops.size - n))

theorem wp_region_relT {R : World → World → Prop} (hrefl : ∀ x, R x x) (htrans : ∀ {x y z}, R x y → R y z → R x z) {P : Program} {id : Nat} {Q : Exit → Act → World → Prop} {a : Act} {w : World} {l : List Oper} (hdrew : R w { w with drawn := w.drawn + 1 }) (n : Nat) (Ts : List (TTR R)) (hm : P.follows .mixedOrders = true) (hB : relB l.toArray = true) (hT : tailB l.toArray n = true) (hlen : Ts.length = n)
    (h : RelGo P l.toArray w Ts (fun a' x => wpList P l.toArray Q (l.drop n) a' x) (l.take n) Ts [] a) : (Code.region id l.toArray true).wp P Q a w := by
  obtain ⟨hsel, hd, hedge, hlook⟩ := relB_spec hB
  simp only [tailB, Bool.and_eq_true, decide_eq_true_eq] at hT
  obtain ⟨⟨⟨hn, hsink⟩, hchain⟩, hseq⟩ := hT
  have htl : (l.take n).length = n := by simp at hn ⊢; omega
  have hdl : (l.drop n).length = l.toArray.size - n := by simp
  have hldrop : ∀ j, (l.drop n)[j]? = l.toArray[n + j]? := fun j => by simp
  generalize hops : l.toArray = ops at *
  have hl : ∀ j : Nat, j < (l.take n).length → (l.take n)[j]? = ops[0 + j]? := fun j hj => by
    rw [← hops]
    rw [htl] at hj
    simp [hj]
  have hpu0 : ∃ us : Nat → Value, ∀ (i : Nat) (T : TTR R), Ts[i]? = some T → T.pu (us i) := by
    refine ⟨fun i => match Ts[i]? with | some T => Classical.choose T.ne | none => undef, fun i T hT => ?_⟩
    simp only [hT]
    exact Classical.choose_spec T.ne
  obtain ⟨us0, hus0⟩ := hpu0
  refine wp_region_any hm ?_
  suffices H : ∀ (m : Nat) (listed : Array Bool) (a' : Act) (x : World) (us : Nat → Value), listed.size = ops.size → listed.toList.count false = m + (ops.size - n) → (∀ t : Nat, n ≤ t → t < ops.size → listed[t]? = some false) → R w x →
      FrameIs ops a a' (fun i => listed[i]? = some true) us → (∀ (i : Nat) (T : TTR R), Ts[i]? = some T → T.pu (us i)) → (∀ (i : Nat) (T : TTR R), Ts[i]? = some T → listed[i]? = some true → T.ho (us i) x) →
      (∀ (k : Nat) (q : Oper), ops[k]? = some q → listed[k]? = some true → ∀ e ∈ q.after, Region.binds .any e = true → listed[e.on]? = some true) → wpAny P .any ops Q (m + (ops.size - n)) listed a' x by
    have hs : n + (ops.size - n) = ops.size := by omega
    have H0 := H n (Array.replicate ops.size false) a { w with drawn := w.drawn + 1 } us0 (by simp) (by simp; omega) (fun t _ ht => by simp [ht]) hdrew (FrameIs.start fun i o hi => by
      have := (Array.getElem?_eq_some_iff.1 hi).1
      simp [this]) hus0 (fun i T _ hi => by simp [Array.getElem?_replicate] at hi) (fun k q _ hi => by simp [Array.getElem?_replicate] at hi)
    rw [hs] at H0
    exact H0
  intro m
  induction m with
  | zero =>
    intro listed a' x us hsz hcnt htail hbel hf hpu hho hcl
    have hall : ∀ i, i < n → listed[i]? = some true := by
      intro i hi
      have hsplit : listed.toList.count false = (listed.toList.take n).count false + (listed.toList.drop n).count false := by
        rw [← List.count_append, List.take_append_drop]
      have hdrop : (listed.toList.drop n).count false = ops.size - n := by
        rw [List.count_eq_length.2, List.length_drop, Array.length_toList, hsz]
        intro b hb
        obtain ⟨j, hj, rfl⟩ := List.mem_iff_getElem.1 hb
        have hj' : n + j < ops.size := by simp at hj; omega
        have := htail (n + j) (by omega) hj'
        rw [Array.getElem?_eq_getElem (by omega)] at this
        simp only [Option.some.injEq] at this
        rw [List.getElem_drop, Array.getElem_toList, this]
      have htake : (listed.toList.take n).count false = 0 := by omega
      have hi' : i < (listed.toList.take n).length := by simp; omega
      have hne : (listed.toList.take n)[i] ≠ false := fun e => by
        have hmem : false ∈ listed.toList.take n := by rw [← e]; exact List.getElem_mem _
        have := List.count_pos_iff.2 hmem
        omega
      have hv : listed[i]'(by omega) ≠ false := by simpa using hne
      rw [Array.getElem?_eq_getElem (by omega)]
      cases hb : listed[i]'(by omega) with
      | true => rfl
      | false => exact absurd hb hv
    have hlist : listed = headListed n (ops.size - n) := by
      apply Array.ext_getElem?
      intro i
      rcases Nat.lt_or_ge i n with hi | hi
      · rw [hall i hi]
        simp [headListed, List.getElem?_append, hi]
      · rcases Nat.lt_or_ge i ops.size with h2 | h2
        · rw [htail i hi h2]
          simp only [headListed, List.getElem?_toArray]
          rw [List.getElem?_append_right (by simpa using hi), List.length_replicate, List.getElem?_replicate]
          rw [if_pos (by omega)]
        · rw [Array.getElem?_eq_none (by omega), Array.getElem?_eq_none (by simp [headListed]; omega)]
    obtain ⟨_, vs', b, hvs, hfb, hq⟩ := relGo_head hd hlen (l.take n) Ts 0 [] a a us (by omega) hl (fun j => by simp) rfl (fun i hi => by omega) (FrameIs.start fun i o _ => Nat.not_lt_zero i) hpu h
    have hab : a' = b := by
      have ht : a'.tmps = b.tmps := by
        apply Array.ext_getElem?
        intro t
        refine hf.agree hd hfb t fun i o hi _ => ?_
        rcases Nat.lt_or_ge i n with h1 | h1
        · exact .inl ⟨hall i h1, h1, rfl⟩
        · refine .inr ⟨fun e => ?_, by omega⟩
          rw [htail i h1 (Array.getElem?_eq_some_iff.1 hi).1] at e
          cases e
      have hdf : a'.defers = b.defers := hf.defers.trans hfb.defers.symm
      cases a'; cases b
      simp only at ht hdf
      rw [ht, hdf]
    rw [hab, Nat.zero_add, ← hdl]
    refine wpAny_of_seq (l.drop n) n listed b x hldrop (by rw [hdl, hlist]; exact hseq) ?_
    refine hq x hbel fun i T v hT hv => ?_
    have hi : i < n := by rw [← hlen]; exact (List.getElem?_eq_some_iff.1 hT).1
    rw [hvs i hi] at hv
    injection hv with hv
    rw [← hv]
    exact hho i T hT (hall i hi)
  | succ m ih =>
    intro listed a' x us hsz hcnt htail hbel hf hpu hho hcl
    have hgetD : ∀ (i : Nat) (d : Bool), i < ops.size → listed.getD i d = listed[i]?.getD d := fun i d _ => Array.getD_eq_getD_getElem?
    have inv : HeadInv .any ops n listed := ⟨hsz, fun j oj hj hl e he hb => by
      have hjs := (Array.getElem?_eq_some_iff.1 hj).1
      have : listed[j]? = some true := by
        rw [Array.getD_eq_getD_getElem?, Array.getElem?_eq_getElem (by omega)] at hl
        rw [Array.getElem?_eq_getElem (by omega)]
        simpa using hl
      rw [Array.getD_eq_getD_getElem?, hcl j oj hj this e he hb]; rfl, fun t ht hts => by
      rw [Array.getD_eq_getD_getElem?, htail t ht hts]; rfl⟩
    have hexh : ∃ k, k < n ∧ listed[k]? = some false := by
      rcases Classical.em (∃ k, k < n ∧ listed[k]? = some false) with h1 | h1
      · exact h1
      · exfalso
        have hsplit : listed.toList.count false = (listed.toList.take n).count false + (listed.toList.drop n).count false := by
          rw [← List.count_append, List.take_append_drop]
        have hdrop : (listed.toList.drop n).count false ≤ ops.size - n := by
          have := List.count_le_length (a := false) (l := listed.toList.drop n)
          rw [List.length_drop, Array.length_toList, hsz] at this
          exact this
        have htake : (listed.toList.take n).count false = 0 := by
          rw [List.count_eq_zero]
          intro hmem
          obtain ⟨k, hk, hkv⟩ := List.mem_iff_getElem.1 hmem
          have hk' : k < n ∧ k < listed.size := by simp at hk; omega
          refine h1 ⟨k, hk'.1, ?_⟩
          rw [Array.getElem?_eq_getElem hk'.2]
          simpa using hkv
        omega
    obtain ⟨k0, hk0, hk0v⟩ := hexh
    have hnotail : ∀ t, n ≤ t → t ∉ Region.ready .any ops listed := tail_waits hsink hchain hn inv (n - k0) k0 rfl hk0 (by rw [Array.getD_eq_getD_getElem?, hk0v]; rfl)
    have hfuel : m + 1 + (ops.size - n) = (m + (ops.size - n)) + 1 := by omega
    rw [hfuel]
    refine ⟨fun hr => ?_, fun i hi => ?_⟩
    · exfalso
      obtain ⟨n1, ⟨hn1, hnl⟩, hmin⟩ := exists_least (p := fun k => k < n ∧ listed[k]? ≠ some true) ⟨k0, hk0, by rw [hk0v]; simp⟩
      obtain ⟨o, ho⟩ : ∃ o, ops[n1]? = some o := ⟨ops[n1]'(by omega), Array.getElem?_eq_getElem (by omega)⟩
      have hmr : n1 ∈ Region.ready .any ops listed := by
        refine mem_ready.2 ⟨?_, o, ho, fun e he hb => ?_⟩
        · rw [Array.getD_eq_getD_getElem?, Array.getElem?_eq_getElem (by omega)]
          rw [Array.getElem?_eq_getElem (by omega)] at hnl
          simpa using hnl
        · have hlt := hedge n1 o ho e he hb
          have : listed[e.on]? = some true := by
            rcases Classical.em (listed[e.on]? = some true) with h1 | h1
            · exact h1
            · have := hmin e.on ⟨by omega, h1⟩; omega
          rw [Array.getD_eq_getD_getElem?, this]; rfl
      rw [hr] at hmr
      cases hmr
    · have hin : i < n := by
        rcases Nat.lt_or_ge i n with h1 | h1
        · exact h1
        · exact absurd hi (hnotail i h1)
      obtain ⟨h0, o, ho, hall⟩ := mem_ready.1 hi
      have hil : listed[i]? = some false := by
        rw [Array.getD_eq_getD_getElem?, Array.getElem?_eq_getElem (by omega)] at h0
        rw [Array.getElem?_eq_getElem (by omega)]
        simpa using h0
      have hpred : ∀ e ∈ o.after, Region.binds .any e = true → listed[e.on]? = some true := fun e he hb => by
        have h1 := hall e he hb
        have hlt := hedge i o ho e he hb
        rw [Array.getD_eq_getD_getElem?, Array.getElem?_eq_getElem (by omega)] at h1
        rw [Array.getElem?_eq_getElem (by omega)]
        simpa using h1
      obtain ⟨T, hT⟩ : ∃ T, Ts[i]? = some T := ⟨Ts[i]'(by omega), List.getElem?_eq_getElem (by omega)⟩
      obtain ⟨vs', b, hvs, hfb, hop⟩ := (relGo_head hd hlen (l.take n) Ts 0 [] a a us (by omega) hl (fun j => by simp) rfl (fun i hi => by omega) (FrameIs.start fun i o _ => Nat.not_lt_zero i) hpu h).1 i o T (Nat.zero_le _) hin ho hT
      have hag := eval_agree (a := a') (b := b) (ops := ops) (fun cs b => hsel i o cs b ho) (fun t ht => by
        refine hf.agree hd hfb t fun k q hk hq => ?_
        by_cases hki : k = i
        · subst hki
          exact .inr ⟨(fun e => (by rw [hil] at e; cases e)), Nat.lt_irrefl _⟩
        · rcases hlook k i q o t hk ho hki hq ht with ⟨hlt, e, he, hb, hon⟩ | ⟨hlt, e, he, hb, hon⟩
          · exact .inl ⟨hon ▸ hpred e he hb, hlt, rfl⟩
          · exact .inr ⟨(fun hS => (by
              have := hcl k q hk hS e he hb
              rw [hon, hil] at this; cases this)), by omega⟩)
      have next : ∀ v x', T.pu v → T.ho v x' → R x x' → wpAny P .any ops Q (m + (ops.size - n)) (listed.setIfInBounds i true) (a'.put o.dst v) x' := by
        intro v x' hpv hhv hbx
        refine ih _ _ _ (fun k => if k = i then v else us k) (by simpa using hsz) ?_ ?_ (htrans hbel hbx) ?_ ?_ ?_ ?_
        · have hil' : listed.toList[i]'(by simp; omega) = false := by
            rw [Array.getElem?_eq_getElem (by omega)] at hil
            simpa using hil
          rw [Array.toList_setIfInBounds, List.count_set (by simp; omega), hil', hcnt]
          simp <;> omega
        · intro t ht hts
          rw [Array.getElem?_setIfInBounds_ne (by omega)]
          exact htail t ht hts
        · have := hf.put hd ho (vs' := fun k => if k = i then v else us k) v (by simp) (fun k _ hk => by simp [hk])
          refine ⟨this.size, this.defers, fun k q d hk hS => this.done k q d hk ?_, fun t ht => this.rest t fun k q hk hq hS => ht k q hk hq ?_⟩
          · by_cases hki : k = i
            · exact .inr hki
            · rw [Array.getElem?_setIfInBounds_ne (by omega)] at hS; exact .inl hS
          · rcases hS with hS | rfl
            · by_cases hki : k = i
              · subst hki; rw [hil] at hS; cases hS
              · rw [Array.getElem?_setIfInBounds_ne (by omega)]; exact hS
            · rw [Array.getElem?_setIfInBounds_self_of_lt (by omega)]
        · intro k T' hT'
          by_cases hki : k = i
          · subst hki
            rw [hT] at hT'; injection hT' with hT'; subst hT'
            simpa using hpv
          · simpa [hki] using hpu k T' hT'
        · intro k T' hT' hS
          by_cases hki : k = i
          · subst hki
            rw [hT] at hT'; injection hT' with hT'; subst hT'
            simpa using hhv
          · rw [Array.getElem?_setIfInBounds_ne (by omega)] at hS
            simp only [hki, if_false]
            exact T'.st _ _ _ (hho k T' hT' hS) hbx
        · intro k q hk hS e he hb
          by_cases hki : k = i
          · subst hki
            rw [ho] at hk; injection hk with hk; subst hk
            have hlt := hedge k o ho e he hb
            rw [Array.getElem?_setIfInBounds_ne (by omega)]
            exact hpred e he hb
          · rw [Array.getElem?_setIfInBounds_ne (by omega)] at hS
            have := hcl k q hk hS e he hb
            by_cases hei : e.on = i
            · rw [hei, hil] at this; cases this
            · rw [Array.getElem?_setIfInBounds_ne (by omega)]; exact this
      unfold wpOp
      simp only [ho]
      unfold opGoal at hop
      rw [hag.2]
      split
      · rename_i hw
        rw [if_pos hw] at hop
        refine .inl (upon_agree (hf.size.trans hfb.size.symm) (hf.defers.trans hfb.defers.symm) hag.1 (hop x hbel ?_) next)
        intro e he hb T' v hT' hv
        have hlt := hedge i o ho e (by simpa using he) hb
        rw [hvs e.on hlt] at hv
        injection hv with hv
        rw [← hv]
        exact hho e.on T' hT' (hpred e (by simpa using he) hb)
      · rename_i hw
        rw [if_neg hw] at hop
        exact next undef x hop.1 (hop.2 x) (hrefl _)

/-- .. where all that was there stands as it stood ahead of these. -/
theorem wp_region_relA {P : Program} {id : Nat} {Q : Exit → Act → World → Prop} {a : Act} {w : World} {l : List Oper} (n : Nat) (Ts : List TT) (hm : P.follows .mixedOrders = true) (hB : relB l.toArray = true) (hT : tailB l.toArray n = true) (hlen : Ts.length = n)
    (h : RelGo P l.toArray w Ts (fun a' x => wpList P l.toArray Q (l.drop n) a' x) (l.take n) Ts [] a) : (Code.region id l.toArray true).wp P Q a w :=
  wp_region_relT (R := BelR) (fun _ => Below.refl _ _) (fun h1 h2 => h1.trans (h2.mono h1.size)) ((Below.refl _ _).drew) n Ts hm hB hT hlen h
end Go.Proofs.YtpogngdddendiaaDoor
