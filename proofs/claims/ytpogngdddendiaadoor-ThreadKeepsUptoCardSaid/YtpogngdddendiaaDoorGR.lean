/- A region that draws its order and changes memory by a chain of operations (a call, an append, a store): one walk in the order of the text, each other operation at each stage of the chain at which it may run. No condition. -/
import Derived.Test.YtpogngdddendiaaDoorGA
set_option linter.unusedVariables false
set_option linter.unusedSimpArgs false
namespace Go.Proofs.YtpogngdddendiaaDoor
open Go.RowKit

/-- An operation's values; whether it is one of the chain. -/
inductive PT where
  | op (pu : Value → Prop) (ne : ∃ v, pu v)
  | key (pu : Value → Prop) (ne : ∃ v, pu v)
def PT.pu : PT → Value → Prop
  | .op p _ => p
  | .key p _ => p
theorem PT.ne : ∀ T : PT, ∃ v, T.pu v
  | .op _ h => h
  | .key _ h => h
def PT.isKey : PT → Bool
  | .op _ _ => false
  | .key _ _ => true
def opE (c : Value) : PT := .op (fun v => v = c) ⟨c, rfl⟩
def keyE (c : Value) : PT := .key (fun v => v = c) ⟨c, rfl⟩
def keyAny : PT := .key (fun _ => True) ⟨undef, trivial⟩
def keySl : PT := .key (fun v => ∃ A n c, v = .slice A n c) ⟨_, none, 0, 0, rfl⟩
def opSl : PT := .op (fun v => ∃ A n c, v = .slice A n c) ⟨_, none, 0, 0, rfl⟩

inductive Reach (ops : Array Oper) : Nat → Nat → Prop
  | one {j : Nat} {o : Oper} {e : Edge} : ops[j]? = some o → e ∈ o.after → Region.binds .any e = true → Reach ops j e.on
  | step {j i : Nat} {o : Oper} {e : Edge} : ops[j]? = some o → e ∈ o.after → Region.binds .any e = true → Reach ops e.on i → Reach ops j i
def maskOf (acc : List Nat) (o : Oper) : Nat := o.after.toList.foldl (fun m e => if Region.binds .any e = true then m ||| (1 <<< e.on) ||| acc.getD e.on 0 else m) 0
def masks : List Oper → List Nat → List Nat
  | [], acc => acc
  | o :: l, acc => masks l (acc ++ [maskOf acc o])
def GoodM (ops : Array Oper) (acc : List Nat) : Prop := ∀ j i, (acc.getD j 0).testBit i = true → Reach ops j i
theorem maskOf_spec {ops : Array Oper} {acc : List Nat} (hg : GoodM ops acc) {j : Nat} {o : Oper} (ho : ops[j]? = some o) {i : Nat} (h : (maskOf acc o).testBit i = true) : Reach ops j i := by
  unfold maskOf at h
  have key : ∀ (l : List Edge) (m : Nat), (∀ e ∈ l, e ∈ o.after.toList) → (∀ i, m.testBit i = true → Reach ops j i) → ∀ i, (l.foldl (fun m e => if Region.binds .any e = true then m ||| (1 <<< e.on) ||| acc.getD e.on 0 else m) m).testBit i = true → Reach ops j i := by
    intro l
    induction l with
    | nil => intro m _ hm i h; exact hm i h
    | cons e l ih =>
      intro m hl hm i h
      rw [List.foldl_cons] at h
      refine ih _ (fun e he => hl e (List.mem_cons_of_mem _ he)) ?_ i h
      intro i h
      split at h
      · rename_i hb
        rw [Nat.testBit_or, Nat.testBit_or, Bool.or_eq_true, Bool.or_eq_true] at h
        have he : e ∈ o.after := by simpa using hl e (List.mem_cons_self ..)
        rcases h with (h | h) | h
        · exact hm i h
        · rw [Nat.one_shiftLeft, Nat.testBit_two_pow] at h
          have : e.on = i := by simpa using h
          subst this
          exact .one ho he hb
        · exact .step ho he hb (hg _ _ h)
      · exact hm i h
  exact key _ 0 (fun e he => he) (fun i h => by simp at h) i h
theorem masks_spec {ops : Array Oper} : ∀ (l : List Oper) (acc : List Nat), (∀ k, k < l.length → l[k]? = ops[acc.length + k]?) → GoodM ops acc → GoodM ops (masks l acc)
  | [], acc, _, h => h
  | o :: l, acc, hl, h => by
    rw [masks]
    refine masks_spec l _ (fun k hk => ?_) ?_
    · have := hl (k + 1) (by simp; omega)
      simp only [List.length_append, List.length_cons, List.length_nil]
      rw [show acc.length + (0 + 1) + k = acc.length + (k + 1) by omega, ← this]
      rfl
    · intro j i hji
      rcases Nat.lt_trichotomy j acc.length with hj | hj | hj
      · rw [List.getD_eq_getElem?_getD, List.getElem?_append_left hj] at hji
        exact h j i (by rw [List.getD_eq_getElem?_getD]; exact hji)
      · subst hj
        have ho : ops[acc.length]? = some o := by simpa using (hl 0 (by simp)).symm
        rw [List.getD_eq_getElem?_getD, List.getElem?_append_right (Nat.le_refl _), Nat.sub_self] at hji
        exact maskOf_spec h ho hji
      · rw [List.getD_eq_getElem?_getD, List.getElem?_eq_none (by simp; omega)] at hji
        simp at hji
theorem Reach.listed {ops : Array Oper} {listed : Array Bool} (hcl : ∀ (k : Nat) (q : Oper), ops[k]? = some q → listed[k]? = some true → ∀ e ∈ q.after, Region.binds .any e = true → listed[e.on]? = some true) {j i : Nat} (h : Reach ops j i) :
    (∀ q, ops[j]? = some q → ∀ e ∈ q.after, Region.binds .any e = true → listed[e.on]? = some true) → listed[i]? = some true := by
  induction h with
  | one ho he hb => intro h; exact h _ ho _ he hb
  | step ho he hb _ ih => intro h; exact ih fun q hq e' he' hb' => hcl _ q hq (h _ ho _ he hb) e' he' hb'

def keysLt (f : Nat → Bool) (b : Nat) : List Nat := (List.range b).filter f
theorem keysLt_succ (f : Nat → Bool) (b : Nat) : keysLt f (b + 1) = keysLt f b ++ (if f b = true then [b] else []) := by
  unfold keysLt
  rw [List.range_succ, List.filter_append]
  congr 1
  rw [List.filter_cons, List.filter_nil]
theorem keysLt_gap {f : Nat → Bool} {b : Nat} : ∀ i, b ≤ i → (∀ k, b ≤ k → k < i → f k = false) → keysLt f i = keysLt f b := by
  intro i hi
  obtain ⟨d, rfl⟩ := Nat.exists_eq_add_of_le hi
  induction d with
  | zero => intro _; rfl
  | succ d ih =>
    intro h
    rw [show b + (d + 1) = (b + d) + 1 by omega, keysLt_succ, ih (by omega) (fun k h1 h2 => h k h1 (by omega)), if_neg (by rw [h (b + d) (by omega) (by omega)]; exact Bool.noConfusion), List.append_nil]
theorem mem_keysLt {f : Nat → Bool} {b k : Nat} : k ∈ keysLt f b ↔ k < b ∧ f k = true := by
  unfold keysLt
  rw [List.mem_filter, List.mem_range]
theorem keysLt_sub (f : Nat → Bool) {b n : Nat} (h : b ≤ n) : (keysLt f b).Sublist (keysLt f n) := by
  unfold keysLt
  exact (List.range_sublist.2 h).filter f
def isK (Ts : List PT) (k : Nat) : Bool := match Ts[k]? with
  | some T => T.isKey
  | none => false
def chainK (ks : List Nat) (ops : List Oper) : Bool := ks.all fun i => ks.all fun k => !decide (k < i) || ((masks ops []).getD i 0).testBit k
def phLo (ks : List Nat) (ops : List Oper) (j : Nat) : Nat := (ks.filter fun k => ((masks ops []).getD j 0).testBit k).length
def phHi (ks : List Nat) (ops : List Oper) (j : Nat) : Nat := (ks.filter fun k => !((masks ops []).getD k 0).testBit j).length

section
variable (P : Program) (opl : List Oper) (ks : List Nat) (Inv : List Value → World → Prop)
def phGoal (T : PT) (o : Oper) (j : Nat) (kvs : List Value) (a : Act) : Prop := match T with
  | .key pu _ => if Region.wanted o (yielded opl.toArray a.tmps) = true then
      ∀ x, Inv kvs x → ∀ K : Act → World → Prop, (∀ v x', pu v → Inv (kvs ++ [v]) x' → K (a.put o.dst v) x') → o.wp P a x K (fun _ _ _ => False)
    else pu undef ∧ ∀ x, Inv kvs x → Inv (kvs ++ [undef]) x
  | .op pu _ => if Region.wanted o (yielded opl.toArray a.tmps) = true then
      ∀ kv x, phLo ks opl j ≤ kv.length → kv.length ≤ phHi ks opl j → Inv kv x → ∀ K : Act → World → Prop, (∀ v x', pu v → Inv kv x' → K (a.put o.dst v) x') → o.wp P a x K (fun _ _ _ => False)
    else pu undef
def PhGo (Q : Act → World → Prop) : List Oper → List PT → Nat → List Value → Act → Prop
  | o :: l, .op pu ne :: Ts, j, kvs, a => phGoal P opl ks Inv (.op pu ne) o j kvs a ∧ ∀ v, pu v → PhGo Q l Ts (j + 1) kvs (a.put o.dst v)
  | o :: l, .key pu ne :: Ts, j, kvs, a => phGoal P opl ks Inv (.key pu ne) o j kvs a ∧ ∀ v, pu v → PhGo Q l Ts (j + 1) (kvs ++ [v]) (a.put o.dst v)
  | [], _, _, kvs, a => ∀ x, Inv kvs x → Q a x
  | _ :: _, [], _, _, _ => False
end
section
variable {P : Program} {opl : List Oper} {ks : List Nat} {Inv : List Value → World → Prop} {Tall : List PT} {Q : Act → World → Prop}
theorem phGo_at {ops : Array Oper} (hops : opl.toArray = ops) (hd : Distinct ops) (hlen : Tall.length = ops.size) : ∀ (l : List Oper) (Ts : List PT) (k : Nat) (kvs : List Value) (a0 a : Act) (us : Nat → Value), (∀ j : Nat, l[j]? = ops[k + j]?) → (∀ j : Nat, Ts[j]? = Tall[k + j]?) → k ≤ ops.size →
    kvs = (keysLt (isK Tall) k).map us → FrameIs ops a0 a (fun i => i < k) us → (∀ (i : Nat) (T : PT), Tall[i]? = some T → T.pu (us i)) → PhGo P opl ks Inv Q l Ts k kvs a →
    (∀ (j : Nat) (o : Oper) (T : PT), k ≤ j → ops[j]? = some o → Tall[j]? = some T → ∃ b : Act, FrameIs ops a0 b (fun i => i < j) us ∧ phGoal P opl ks Inv T o j ((keysLt (isK Tall) j).map us) b) ∧
    ∃ b : Act, FrameIs ops a0 b (fun i => i < ops.size) us ∧ ∀ x, Inv ((keysLt (isK Tall) ops.size).map us) x → Q b x := by
  intro l
  induction l with
  | nil =>
    intro Ts k kvs a0 a us hl hT hks hkv hf hpu h
    have hsz : ops.size ≤ k := by
      have := hl 0
      simp at this
      exact this
    obtain rfl : k = ops.size := by omega
    refine ⟨fun j o T hj ho _ => ?_, a, hf, fun x hx => ?_⟩
    · have := (Array.getElem?_eq_some_iff.1 ho).1
      omega
    · rw [← hkv] at hx
      cases Ts <;> exact h x hx
  | cons o l ih =>
    intro Ts k kvs a0 a us hl hT hks hkv hf hpu h
    have ho : ops[k]? = some o := by simpa using (hl 0).symm
    have hkl := (Array.getElem?_eq_some_iff.1 ho).1
    cases Ts with
    | nil => exact h.elim
    | cons T Ts =>
      have hTk : Tall[k]? = some T := by simpa using (hT 0).symm
      have hput : FrameIs ops a0 (a.put o.dst (us k)) (fun i => i < k + 1) us := by
        have := hf.put hd ho (vs' := us) (us k) rfl (fun _ _ _ => rfl)
        exact ⟨this.size, this.defers, fun i q d hq hS => this.done i q d hq (by have hS' : i < k + 1 := hS; show i < k ∨ i = k; omega), fun t ht => this.rest t (fun i q hq hdst hS => ht i q hq hdst (by have hS' : i < k ∨ i = k := hS; show i < k + 1; omega))⟩
      have hl' : ∀ j : Nat, l[j]? = ops[k + 1 + j]? := fun j => by have := hl (j + 1); simpa [Nat.add_assoc, Nat.add_comm 1 j] using this
      have hT' : ∀ j : Nat, Ts[j]? = Tall[k + 1 + j]? := fun j => by have := hT (j + 1); simpa [Nat.add_assoc, Nat.add_comm 1 j] using this
      have hpk := hpu k T hTk
      cases T with
      | op pu ne =>
        obtain ⟨h1, h2⟩ := h
        have hk1 : keysLt (isK Tall) (k + 1) = keysLt (isK Tall) k := by
          rw [keysLt_succ, if_neg (by unfold isK; rw [hTk]; exact Bool.noConfusion), List.append_nil]
        have hrec := ih Ts (k + 1) kvs a0 (a.put o.dst (us k)) us hl' hT' (by omega) (by rw [hk1]; exact hkv) hput hpu (h2 (us k) hpk)
        refine ⟨fun j o' T' hj ho' hT2 => ?_, hrec.2⟩
        by_cases hjk : j = k
        · subst hjk
          rw [ho] at ho'
          injection ho' with ho'
          subst ho'
          rw [hTk] at hT2
          injection hT2 with hT2
          subst hT2
          exact ⟨a, hf, by rw [← hkv]; exact h1⟩
        · exact hrec.1 j o' T' (by omega) ho' hT2
      | key pu ne =>
        obtain ⟨h1, h2⟩ := h
        have hk1 : keysLt (isK Tall) (k + 1) = keysLt (isK Tall) k ++ [k] := by
          rw [keysLt_succ, if_pos (by unfold isK; rw [hTk]; rfl)]
        have hrec := ih Ts (k + 1) (kvs ++ [us k]) a0 (a.put o.dst (us k)) us hl' hT' (by omega) (by rw [hk1, List.map_append, hkv]; rfl) hput hpu (h2 (us k) hpk)
        refine ⟨fun j o' T' hj ho' hT2 => ?_, hrec.2⟩
        by_cases hjk : j = k
        · subst hjk
          rw [ho] at ho'
          injection ho' with ho'
          subst ho'
          rw [hTk] at hT2
          injection hT2 with hT2
          subst hT2
          exact ⟨a, hf, by rw [← hkv]; exact h1⟩
        · exact hrec.1 j o' T' (by omega) ho' hT2
end
theorem upon_agree' {P : Program} {o : Oper} {a b : Act} {x : World} {G : Value → World → Prop} {K : Act → World → Prop} {Q : Exit → Act → World → Prop} (hs : a.tmps.size = b.tmps.size) (hdf : a.defers = b.defers)
    (he : execOp a.eval o = execOp b.eval o)
    (h : ∀ K : Act → World → Prop, (∀ v x', G v x' → K (b.put o.dst v) x') → o.wp P b x K (fun _ _ _ => False))
    (hK : ∀ v x', G v x' → K (a.put o.dst v) x') : o.wp P a x K Q := by
  have h1 := h (fun c x' => ∃ v, c = b.put o.dst v ∧ G v x') (fun v x' h1 => ⟨v, rfl, h1⟩)
  have key : ∀ v x', (∃ v', b.put o.dst v = b.put o.dst v' ∧ G v' x') → K (a.put o.dst v) x' := by
    rintro v x' ⟨v', e, h1⟩
    rw [put_same hs e]
    exact hK v' x' h1
  unfold Oper.wp at h1 ⊢
  rw [he]
  generalize (execOp b.eval o).run P x = r at h1 ⊢
  cases r with
  | ok n w' =>
    cases n with
    | value v => exact key v w' h1
    | skip => exact key undef w' h1
    | defer d =>
      obtain ⟨v, e, _⟩ := h1
      exfalso
      have := congrArg (fun c : Act => c.defers.length) e
      cases hdst : o.dst <;> simp [Act.put, hdst] at this
    | enter f args =>
      refine Calls.mono h1 ?_
      intro e w'' h2
      cases e with
      | returned v => exact key v w'' h2
      | panicked c => exact h2.elim
      | outgrown => obtain ⟨_, _, h3⟩ := h2; exact h3.elim
    | row row args => exact Rows.mono h1 fun v w'' h2 => key v w'' h2
    | _ => exact h1.elim
  | halt hh w' =>
    cases hh with
    | panic v => exact h1.elim
    | _ => exact h1.elim

theorem wp_region_ph (ks : List Nat) (Inv : List Value → World → Prop) (Ts : List PT) {P : Program} {id : Nat} {Q : Exit → Act → World → Prop} {a : Act} {w : World} {l : List Oper} (hm : P.follows .mixedOrders = true) (hB : relB l.toArray = true) (hC : chainK ks l = true) (hlen : Ts.length = l.length) (hks : keysLt (isK Ts) l.length = ks)
    (h0 : Inv [] { w with drawn := w.drawn + 1 }) (h : PhGo P l ks Inv (fun a' x => Q .normal a' x) l Ts 0 [] a) : (Code.region id l.toArray true).wp P Q a w := by
  obtain ⟨hsel, hd, hedge, hlook⟩ := relB_spec hB
  have hTlen : Ts.length = l.toArray.size := by simpa using hlen
  have hgm : GoodM l.toArray (masks l []) := masks_spec l [] (fun k hk => by simp) (fun j i h => by simp at h)
  have hll : l.length = l.toArray.size := by simp
  rw [hll] at hks
  obtain ⟨ops, hops⟩ : ∃ ops, ops = l.toArray := ⟨_, rfl⟩
  rw [← hops] at hsel hd hedge hlook hTlen hgm hks ⊢
  have hl : ∀ j : Nat, l[j]? = ops[0 + j]? := fun j => by rw [hops]; simp
  have hmk : ∀ k, k ∈ ks ↔ k < ops.size ∧ isK Ts k = true := fun k => by rw [← hks]; exact mem_keysLt
  have hpu0 : ∃ us : Nat → Value, ∀ (i : Nat) (T : PT), Ts[i]? = some T → T.pu (us i) := by
    refine ⟨fun i => match Ts[i]? with | some T => Classical.choose T.ne | none => undef, fun i T hT => ?_⟩
    simp only [hT]
    exact Classical.choose_spec T.ne
  obtain ⟨us0, hus0⟩ := hpu0
  refine wp_region_any hm ?_
  suffices H : ∀ (fuel : Nat) (listed : Array Bool) (a' : Act) (x : World) (us : Nat → Value) (b : Nat), listed.size = ops.size → listed.toList.count false = fuel → b ≤ ops.size → Inv ((keysLt (isK Ts) b).map us) x → (∀ k, k ∈ ks → (listed[k]? = some true ↔ k < b)) →
      FrameIs ops a a' (fun i => listed[i]? = some true) us → (∀ (i : Nat) (T : PT), Ts[i]? = some T → T.pu (us i)) →
      (∀ (k : Nat) (q : Oper), ops[k]? = some q → listed[k]? = some true → ∀ e ∈ q.after, Region.binds .any e = true → listed[e.on]? = some true) → wpAny P .any ops Q fuel listed a' x by
    refine H ops.size _ _ _ us0 0 (by simp) (by simp) (Nat.zero_le _) h0 (fun k _ => ?_) (FrameIs.start fun i o hi => by
      have := (Array.getElem?_eq_some_iff.1 hi).1
      simp [this]) hus0 ?_
    · simp [Array.getElem?_replicate]
    · intro k q _ hi; simp [Array.getElem?_replicate] at hi
  intro fuel
  induction fuel with
  | zero =>
    intro listed a' x us b hsz hcnt hb hinv hkb hf hpu hcl
    have hall : ∀ i, i < ops.size → listed[i]? = some true := by
      intro i hi
      have hi' : i < listed.toList.length := by simp; omega
      have hmem : listed.toList[i] ∈ listed.toList := List.getElem_mem _
      have hne : listed.toList[i] ≠ false := fun e => by
        rw [e] at hmem
        have := List.count_pos_iff.2 hmem
        omega
      have : listed.toList[i] = true := by simpa using hne
      rw [Array.getElem?_eq_getElem (by omega)]
      simpa using this
    refine ⟨?_, ?_⟩
    · rw [List.eq_nil_iff_forall_not_mem]
      intro j hj
      obtain ⟨h0, o, ho, _⟩ := mem_ready.1 hj
      have hj' := hall j (Array.getElem?_eq_some_iff.1 ho).1
      rw [Array.getD_eq_getD_getElem?, hj'] at h0
      cases h0
    · obtain ⟨_, c, hfb, hq⟩ := phGo_at hops.symm hd hTlen l Ts 0 [] a a us hl (fun j => by simp) (Nat.zero_le _) rfl (FrameIs.start fun i o _ => Nat.not_lt_zero i) hpu h
      have hab : a' = c := frame_eq hd hf hfb fun i o hi => ⟨hall i (Array.getElem?_eq_some_iff.1 hi).1, (Array.getElem?_eq_some_iff.1 hi).1⟩
      rw [hab]
      refine hq x ?_
      rw [keysLt_gap ops.size hb (fun k h1 h2 => ?_)]
      · exact hinv
      · cases hk : isK Ts k with
        | false => rfl
        | true =>
          have := (hkb k ((hmk k).2 ⟨h2, hk⟩)).1 (hall k h2)
          omega
  | succ fuel ih =>
    intro listed a' x us b hsz hcnt hb hinv hkb hf hpu hcl
    refine ⟨fun hr => ?_, fun i hi => ?_⟩
    · exfalso
      have hex : ∃ n, n < ops.size ∧ listed[n]? ≠ some true := by
        have hmem : false ∈ listed.toList := List.count_pos_iff.1 (by omega)
        obtain ⟨n, hn, hnv⟩ := List.mem_iff_getElem.1 hmem
        refine ⟨n, by simp at hn; omega, ?_⟩
        rw [Array.getElem?_eq_getElem (by simpa using hn)]
        simp at hnv
        simp [hnv]
      obtain ⟨n, ⟨hn, hnl⟩, hmin⟩ := exists_least hex
      have hon : ∃ o, ops[n]? = some o := ⟨ops[n], Array.getElem?_eq_getElem hn⟩
      obtain ⟨o, ho⟩ := hon
      have hmr : n ∈ Region.ready .any ops listed := by
        refine mem_ready.2 ⟨?_, o, ho, fun e he hb => ?_⟩
        · rw [Array.getD_eq_getD_getElem?, Array.getElem?_eq_getElem (by omega)]
          rw [Array.getElem?_eq_getElem (by omega)] at hnl
          simpa using hnl
        · have hlt := hedge n o ho e he hb
          have : listed[e.on]? = some true := by
            rcases Classical.em (listed[e.on]? = some true) with h1 | h1
            · exact h1
            · have := hmin e.on ⟨by omega, h1⟩; omega
          rw [Array.getD_eq_getD_getElem?, this]; rfl
      rw [hr] at hmr
      cases hmr
    · obtain ⟨h0', o, ho, hall⟩ := mem_ready.1 hi
      have hin : i < ops.size := (Array.getElem?_eq_some_iff.1 ho).1
      have hil : listed[i]? = some false := by
        rw [Array.getD_eq_getD_getElem?, Array.getElem?_eq_getElem (by omega)] at h0'
        rw [Array.getElem?_eq_getElem (by omega)]
        simpa using h0'
      have hpred : ∀ e ∈ o.after, Region.binds .any e = true → listed[e.on]? = some true := fun e he hb => by
        have h1 := hall e he hb
        have hlt := hedge i o ho e he hb
        rw [Array.getD_eq_getD_getElem?, Array.getElem?_eq_getElem (by omega)] at h1
        rw [Array.getElem?_eq_getElem (by omega)]
        simpa using h1
      have hreach : ∀ k, ((masks l []).getD i 0).testBit k = true → listed[k]? = some true := fun k hk =>
        (hgm i k hk).listed hcl fun q hq e he hb => by
          rw [ho] at hq
          injection hq with hq
          subst hq
          exact hpred e he hb
      have hreach2 : ∀ k, k < b → k ∈ ks → ((masks l []).getD k 0).testBit i = false := fun k hk hkk => by
        cases hbit : ((masks l []).getD k 0).testBit i with
        | false => rfl
        | true =>
          have hkl := (hkb k hkk).2 hk
          have := (hgm k i hbit).listed hcl fun q hq e he hb => hcl k q hq hkl e he hb
          rw [hil] at this
          cases this
      obtain ⟨T, hT⟩ : ∃ T, Ts[i]? = some T := ⟨Ts[i]'(by omega), List.getElem?_eq_getElem (by omega)⟩
      obtain ⟨c, hfb, hop⟩ := (phGo_at hops.symm hd hTlen l Ts 0 [] a a us hl (fun j => by simp) (Nat.zero_le _) rfl (FrameIs.start fun i o _ => Nat.not_lt_zero i) hpu h).1 i o T (Nat.zero_le _) ho hT
      have hag := eval_agree (a := a') (b := c) (ops := ops) (fun cs b => hsel i o cs b ho) (fun t ht => by
        refine hf.agree hd hfb t fun k q hk hq => ?_
        by_cases hki : k = i
        · subst hki
          exact .inr ⟨(fun e => (by rw [hil] at e; cases e)), Nat.lt_irrefl _⟩
        · rcases hlook k i q o t hk ho hki hq ht with ⟨hlt, e, he, hb, hon⟩ | ⟨hlt, e, he, hb, hon⟩
          · exact .inl ⟨hon ▸ hpred e he hb, hlt, rfl⟩
          · exact .inr ⟨(fun hS => (by
              have := hcl k q hk hS e he hb
              rw [hon, hil] at this; cases this)), by omega⟩)
      have next : ∀ v x' b', T.pu v → b' ≤ ops.size → Inv ((keysLt (isK Ts) b').map (fun k => if k = i then v else us k)) x' → (∀ k, k ∈ ks → ((listed.setIfInBounds i true)[k]? = some true ↔ k < b')) → wpAny P .any ops Q fuel (listed.setIfInBounds i true) (a'.put o.dst v) x' := by
        intro v x' b' hpv hb' hinv' hkb'
        refine ih _ _ _ (fun k => if k = i then v else us k) b' (by simpa using hsz) ?_ hb' hinv' hkb' ?_ ?_ ?_
        · have hil' : listed.toList[i]'(by simp; omega) = false := by
            rw [Array.getElem?_eq_getElem (by omega)] at hil
            simpa using hil
          rw [Array.toList_setIfInBounds, List.count_set (by simp; omega), hil', hcnt]
          simp
        · have := hf.put hd ho (vs' := fun k => if k = i then v else us k) v (by simp) (fun k _ hk => by simp [hk])
          refine ⟨this.size, this.defers, fun k q d hk hS => this.done k q d hk ?_, fun t ht => this.rest t fun k q hk hq hS => ht k q hk hq ?_⟩
          · by_cases hki : k = i
            · exact .inr hki
            · rw [Array.getElem?_setIfInBounds_ne (by omega)] at hS; exact .inl hS
          · rcases hS with hS | rfl
            · by_cases hki : k = i
              · subst hki; rw [hil] at hS; cases hS
              · rw [Array.getElem?_setIfInBounds_ne (by omega)]; exact hS
            · rw [Array.getElem?_setIfInBounds_self_of_lt (by omega)]
        · intro k T' hT'
          by_cases hki : k = i
          · subst hki
            rw [hT] at hT'; injection hT' with hT'; subst hT'
            simpa using hpv
          · simpa [hki] using hpu k T' hT'
        · intro k q hk hS e he hb
          by_cases hki : k = i
          · subst hki
            rw [ho] at hk; injection hk with hk; subst hk
            have hlt := hedge k o ho e he hb
            rw [Array.getElem?_setIfInBounds_ne (by omega)]
            exact hpred e he hb
          · rw [Array.getElem?_setIfInBounds_ne (by omega)] at hS
            have := hcl k q hk hS e he hb
            by_cases hei : e.on = i
            · rw [hei, hil] at this; cases this
            · rw [Array.getElem?_setIfInBounds_ne (by omega)]; exact this
      have hmapne : ∀ (b' : Nat) (v : Value), (∀ k, k ∈ keysLt (isK Ts) b' → k ≠ i) → (keysLt (isK Ts) b').map (fun k => if k = i then v else us k) = (keysLt (isK Ts) b').map us := fun b' v hne =>
        List.map_congr_left fun k hk => by rw [if_neg (hne k hk)]
      have hlen1 : ((keysLt (isK Ts) b).map us).length = (keysLt (isK Ts) b).length := List.length_map ..
      unfold wpOp
      simp only [ho]
      rw [hag.2]
      cases T with
      | op pu ne =>
        have hik : isK Ts i = false := by unfold isK; rw [hT]; rfl
        have hkb1 : ∀ k, k ∈ ks → ((listed.setIfInBounds i true)[k]? = some true ↔ k < b) := fun k hk => by
          have hne : i ≠ k := fun e => by
            subst e
            rw [((hmk _).1 hk).2] at hik
            cases hik
          rw [Array.getElem?_setIfInBounds_ne hne]
          exact hkb k hk
        have hm1 : ∀ v : Value, (keysLt (isK Ts) b).map (fun k => if k = i then v else us k) = (keysLt (isK Ts) b).map us := fun v => hmapne b v fun k hk e => by
          subst e
          rw [(mem_keysLt.1 hk).2] at hik
          cases hik
        have hlo : phLo ks l i ≤ ((keysLt (isK Ts) b).map us).length := by
          rw [hlen1]
          unfold phLo
          have h1 : (ks.filter fun k => ((masks l []).getD i 0).testBit k) = (keysLt (isK Ts) b).filter fun k => ((masks l []).getD i 0).testBit k := by
            have hno : ∀ k, k ∈ ks → ((masks l []).getD i 0).testBit k = true → k < b := fun k hk hbit => (hkb k hk).1 (hreach k hbit)
            rw [← hks] at hno ⊢
            obtain ⟨d, hd'⟩ := Nat.exists_eq_add_of_le hb
            rw [hd'] at hno ⊢
            have e0 : keysLt (isK Ts) (b + d) = keysLt (isK Ts) b ++ ((List.range d).map (b + ·)).filter (isK Ts) := by
              unfold keysLt
              rw [List.range_add, List.filter_append]
            rw [e0] at hno ⊢
            rw [List.filter_append]
            have e2 : (((List.range d).map (b + ·)).filter (isK Ts)).filter (fun k => ((masks l []).getD i 0).testBit k) = [] := by
              rw [List.filter_eq_nil_iff]
              intro k hk hbit
              have h1 := hno k (List.mem_append_right _ hk) hbit
              obtain ⟨j, _, rfl⟩ := List.mem_map.1 (List.mem_filter.1 hk).1
              omega
            rw [e2, List.append_nil]
          rw [h1]
          exact List.filter_sublist.length_le
        have hhi : ((keysLt (isK Ts) b).map us).length ≤ phHi ks l i := by
          rw [hlen1]
          unfold phHi
          have h1 : keysLt (isK Ts) b = (keysLt (isK Ts) b).filter fun k => !((masks l []).getD k 0).testBit i := by
            rw [List.filter_eq_self.2]
            intro k hk
            obtain ⟨hk1, hk2⟩ := mem_keysLt.1 hk
            rw [hreach2 k hk1 ((hmk k).2 ⟨by omega, hk2⟩)]
            rfl
          rw [h1, ← hks]
          exact ((keysLt_sub (isK Ts) hb).filter _).length_le
        simp only [phGoal] at hop
        rw [← hops] at hop
        split
        · rename_i hw
          rw [if_pos hw] at hop
          refine .inl (upon_agree' (G := fun v x' => pu v ∧ Inv ((keysLt (isK Ts) b).map us) x') (hf.size.trans hfb.size.symm) (hf.defers.trans hfb.defers.symm) hag.1 (fun K hK => hop _ x hlo hhi hinv K fun v x' h1 h2 => hK v x' ⟨h1, h2⟩) ?_)
          rintro v x' ⟨h1, h2⟩
          exact next v x' b h1 hb (by rw [hm1]; exact h2) hkb1
        · rename_i hw
          rw [if_neg hw] at hop
          exact next undef x b hop hb (by rw [hm1]; exact hinv) hkb1
      | key pu ne =>
        have hik : isK Ts i = true := by unfold isK; rw [hT]; rfl
        have hiks : i ∈ ks := (hmk i).2 ⟨hin, hik⟩
        have hbi : b ≤ i := by
          rcases Nat.lt_or_ge i b with h1 | h1
          · have := (hkb i hiks).2 h1
            rw [hil] at this
            cases this
          · exact h1
        have hless : ∀ k, k ∈ ks → k < i → k < b := fun k hk hlt => by
          refine (hkb k hk).1 (hreach k ?_)
          have h1 := List.all_eq_true.1 hC i hiks
          have h2 := List.all_eq_true.1 h1 k hk
          rw [decide_eq_true hlt] at h2
          simpa using h2
        have hgap : keysLt (isK Ts) i = keysLt (isK Ts) b := keysLt_gap i hbi fun k h1 h2 => by
          cases hk : isK Ts k with
          | false => rfl
          | true =>
            have := hless k ((hmk k).2 ⟨by omega, hk⟩) h2
            omega
        have hnx : ∀ v : Value, (keysLt (isK Ts) (i + 1)).map (fun k => if k = i then v else us k) = (keysLt (isK Ts) b).map us ++ [v] := fun v => by
          rw [keysLt_succ, if_pos hik, List.map_append, ← hgap, hmapne i v (fun k hk => by have := (mem_keysLt.1 hk).1; omega)]
          simp
        have hkb1 : ∀ k, k ∈ ks → ((listed.setIfInBounds i true)[k]? = some true ↔ k < i + 1) := fun k hk => by
          by_cases hki : k = i
          · subst hki
            rw [Array.getElem?_setIfInBounds_self_of_lt (by omega)]
            exact ⟨fun _ => by omega, fun _ => rfl⟩
          · rw [Array.getElem?_setIfInBounds_ne (by omega), hkb k hk]
            exact ⟨fun h => by omega, fun h => hless k hk (by omega)⟩
        simp only [phGoal, hgap] at hop
        rw [← hops] at hop
        split
        · rename_i hw
          rw [if_pos hw] at hop
          refine .inl (upon_agree' (G := fun v x' => pu v ∧ Inv ((keysLt (isK Ts) b).map us ++ [v]) x') (hf.size.trans hfb.size.symm) (hf.defers.trans hfb.defers.symm) hag.1 (fun K hK => hop x hinv K fun v x' h1 h2 => hK v x' ⟨h1, h2⟩) ?_)
          rintro v x' ⟨h1, h2⟩
          exact next v x' (i + 1) h1 (by omega) (by rw [hnx]; exact h2) hkb1
        · rename_i hw
          rw [if_neg hw] at hop
          exact next undef x (i + 1) hop.1 (by omega) (by rw [hnx]; exact hop.2 x hinv) hkb1
section
variable {P : Program} {opl : List Oper} {ks : List Nat} {Inv : List Value → World → Prop} {pu : Value → Prop} {ne : ∃ v, pu v} {o : Oper} {j : Nat} {kvs : List Value} {a : Act}
theorem phOp (hw : Region.wanted o (yielded opl.toArray a.tmps) = true) (h : ∀ kv x, phLo ks opl j ≤ kv.length → kv.length ≤ phHi ks opl j → Inv kv x → ∀ K : Act → World → Prop, (∀ v x', pu v → Inv kv x' → K (a.put o.dst v) x') → o.wp P a x K (fun _ _ _ => False)) : phGoal P opl ks Inv (.op pu ne) o j kvs a := by
  simp only [phGoal]
  rw [if_pos hw]
  exact h
theorem phSkip (hw : Region.wanted o (yielded opl.toArray a.tmps) = false) (h : pu undef) : phGoal P opl ks Inv (.op pu ne) o j kvs a := by
  simp only [phGoal]
  rw [if_neg (not_true hw)]
  exact h
theorem phKey (hw : Region.wanted o (yielded opl.toArray a.tmps) = true) (h : ∀ x, Inv kvs x → ∀ K : Act → World → Prop, (∀ v x', pu v → Inv (kvs ++ [v]) x' → K (a.put o.dst v) x') → o.wp P a x K (fun _ _ _ => False)) : phGoal P opl ks Inv (.key pu ne) o j kvs a := by
  simp only [phGoal]
  rw [if_pos hw]
  exact h
theorem phKeySkip (hw : Region.wanted o (yielded opl.toArray a.tmps) = false) (h : pu undef) (h2 : ∀ x, Inv kvs x → Inv (kvs ++ [undef]) x) : phGoal P opl ks Inv (.key pu ne) o j kvs a := by
  simp only [phGoal]
  rw [if_neg (not_true hw)]
  exact ⟨h, h2⟩
/-- append of one element just laid, as one operation. -/
theorem wp_push {w : World} {K : Act → World → Prop} {Q : Exit → Act → World → Prop} (s x : Operand) (t : TypeId) (ho : o.op = .call { callee := .builtin .append, args := #[s, x], argTypes := #[t, t] })
    {e : TypeId} {i : TypeInfo} {z : Value} {sz bytes : Nat} (ht : P.underlying t = some (.slice e)) (hi : P.info? e = some i) (hz : i.zero = some z) (hsize : i.size = sz) (hby : i.bytes = bytes) (hzs : z.cells.size = sz) (hsz : 0 < sz)
    {base n : Nat} {v : Value} {xs : List Value} {cs : Array Value} (hown : w.ownsRow base e sz v n xs) (hs : a.eval s = v) (hx : a.eval x = .slice (some ⟨w.heap.size, 0, none⟩) 1 1) (hcs : cs.size = sz) (h1 : ∀ u ∈ cs.toList, u.oneCell' = true)
    (hbytes : (n + 1) * bytes ≤ 140737488355328) (hb0 : 0 < bytes) (hbase : base ≤ w.heap.size)
    (h : ∀ A' c' w', w'.ownsRow base e sz (.slice A' (n + 1) c') (n + 1) (xs ++ cs.toList) → Below base w w' → Others [e] w w' → K (a.put o.dst (.slice A' (n + 1) c')) w') :
    o.wp P a (w.alloc (.cells cs e)) K Q := by
  refine wp_append_own _ s x t ho base e i z sz bytes ht hi hz hsize hby hzs hsz v n xs hs (hown.alloc _) ⟨w.heap.size, 0, none⟩ 1 1 cs.toList hx (by simp [hcs]) ?_ h1 ?_ hbytes (by simp; omega) ?_
  · intro j u hu
    rw [Addr.add_lit, Nat.zero_add, cell_of_row _ _ j cs e (0, 0) (heap_alloc_new w _)]
    simpa using hu
  · have := Nat.le_mul_of_pos_right (n + 1) hb0
    simp only [maxLen]; omega
  · intro v' w' hown' hgrow _
    obtain ⟨A', c', rfl, _⟩ := own_form hown'
    exact h A' c' w' hown' (((Below.refl base w).alloc hbase _).grown hgrow (by simp; omega) (fun k hk => (hown.lt k hk).1)) ((Others.of_below ((Below.refl _ _).alloc (Nat.le_refl _) _)).trans (Others.grown (hown.alloc _) hgrow (by simp)))
theorem phHi_le {n c : Nat} (h : n ≤ phHi ks opl j) (hb : Nat.ble (phHi ks opl j) c = true) : n ≤ c := Nat.le_trans h (Nat.le_of_ble_eq_true hb)
theorem phLo_le {n c : Nat} (h : phLo ks opl j ≤ n) (hb : Nat.ble c (phLo ks opl j) = true) : c ≤ n := Nat.le_trans (Nat.le_of_ble_eq_true hb) h
end
end Go.Proofs.YtpogngdddendiaaDoor

/- A region that draws its order, with one operation in it that waits for all ahead of it and for which all behind it wait (a call that changes memory, with two results): walks ahead, over it, behind. No condition. -/
set_option linter.unusedVariables false
set_option linter.unusedSimpArgs false
namespace Go.Proofs.YtpogngdddendiaaDoor
open Go.RowKit

theorem relAny_from {R : World → World → Prop} (hrefl : ∀ x, R x x) (htrans : ∀ {x y z}, R x y → R y z → R x z) {P : Program} {Q : Exit → Act → World → Prop} {a a1 : Act} {w : World} {ops : Array Oper} (hB : relB ops = true) (k0 : Nat) (l : List Oper) (Tall Ts : List (TTR R)) (vs1 : List Value) (us1 : Nat → Value) (hTlen : Tall.length = ops.size)
    (hl : ∀ j : Nat, l[j]? = ops[k0 + j]?) (hT1 : ∀ j : Nat, Ts[j]? = Tall[k0 + j]?) (hvl : vs1.length = k0) (hvs1 : ∀ i, i < k0 → vs1[i]? = some (us1 i)) (hpu1 : ∀ us : Nat → Value, (∀ (i : Nat) (T : TTR R), Tall[i]? = some T → T.pu (us i)) → ∀ i, i < k0 → us1 i = us i) (hf1 : ∀ us : Nat → Value, (∀ i, i < k0 → us i = us1 i) → FrameIs ops a a1 (fun i => i < k0) us)
    (h : RelGo P ops w Tall (fun a' x => Q .normal a' x) l Ts vs1 a1) : ∀ (fuel : Nat) (listed : Array Bool) (a' : Act) (x : World) (us : Nat → Value), listed.size = ops.size → listed.toList.count false = fuel → (∀ i, i < k0 → listed[i]? = some true) → R w x →
      FrameIs ops a a' (fun i => listed[i]? = some true) us → (∀ (i : Nat) (T : TTR R), Tall[i]? = some T → T.pu (us i)) → (∀ (i : Nat) (T : TTR R), Tall[i]? = some T → listed[i]? = some true → T.ho (us i) x) →
      (∀ (k : Nat) (q : Oper), ops[k]? = some q → listed[k]? = some true → ∀ e ∈ q.after, Region.binds .any e = true → listed[e.on]? = some true) → wpAny P .any ops Q fuel listed a' x := by
  obtain ⟨hsel, hd, hedge, hlook⟩ := relB_spec hB
  intro fuel
  induction fuel with
  | zero =>
    intro listed a' x us hsz hcnt hk0 hbel hf hpu hho hcl
    have hall : ∀ i, i < ops.size → listed[i]? = some true := by
      intro i hi
      have hi' : i < listed.toList.length := by simp; omega
      have hmem : listed.toList[i] ∈ listed.toList := List.getElem_mem _
      have hne : listed.toList[i] ≠ false := fun e => by
        rw [e] at hmem
        have := List.count_pos_iff.2 hmem
        omega
      have : listed.toList[i] = true := by simpa using hne
      rw [Array.getElem?_eq_getElem (by omega)]
      simpa using this
    refine ⟨?_, ?_⟩
    · rw [List.eq_nil_iff_forall_not_mem]
      intro j hj
      obtain ⟨h0, o, ho, _⟩ := mem_ready.1 hj
      have hj' := hall j (Array.getElem?_eq_some_iff.1 ho).1
      rw [Array.getD_eq_getD_getElem?, hj'] at h0
      cases h0
    · obtain ⟨_, vs', b, hvs, hfb, hq⟩ := relGo_at hd hTlen l Ts k0 vs1 a a1 us hl hT1 hvl (fun i hi => by rw [hvs1 i hi, hpu1 us hpu i hi]) (hf1 us fun i hi => (hpu1 us hpu i hi).symm) hpu h
      have hab : a' = b := frame_eq hd hf hfb fun i o hi => ⟨hall i (Array.getElem?_eq_some_iff.1 hi).1, (Array.getElem?_eq_some_iff.1 hi).1⟩
      rw [hab]
      refine hq x hbel fun i T v hT hv => ?_
      have hi : i < ops.size := by rw [← hTlen]; exact (List.getElem?_eq_some_iff.1 hT).1
      rw [hvs i hi] at hv
      injection hv with hv
      rw [← hv]
      exact hho i T hT (hall i hi)
  | succ fuel ih =>
    intro listed a' x us hsz hcnt hk0 hbel hf hpu hho hcl
    refine ⟨fun hr => ?_, fun i hi => ?_⟩
    · exfalso
      have hex : ∃ n, n < ops.size ∧ listed[n]? ≠ some true := by
        have hmem : false ∈ listed.toList := List.count_pos_iff.1 (by omega)
        obtain ⟨n, hn, hnv⟩ := List.mem_iff_getElem.1 hmem
        refine ⟨n, by simp at hn; omega, ?_⟩
        rw [Array.getElem?_eq_getElem (by simpa using hn)]
        simp at hnv
        simp [hnv]
      obtain ⟨n, ⟨hn, hnl⟩, hmin⟩ := exists_least hex
      have hon : ∃ o, ops[n]? = some o := ⟨ops[n], Array.getElem?_eq_getElem hn⟩
      obtain ⟨o, ho⟩ := hon
      have hmr : n ∈ Region.ready .any ops listed := by
        refine mem_ready.2 ⟨?_, o, ho, fun e he hb => ?_⟩
        · rw [Array.getD_eq_getD_getElem?, Array.getElem?_eq_getElem (by omega)] 
          rw [Array.getElem?_eq_getElem (by omega)] at hnl
          simpa using hnl
        · have hlt := hedge n o ho e he hb
          have : listed[e.on]? = some true := by
            rcases Classical.em (listed[e.on]? = some true) with h1 | h1
            · exact h1
            · have := hmin e.on ⟨by omega, h1⟩; omega
          rw [Array.getD_eq_getD_getElem?, this]; rfl
      rw [hr] at hmr
      cases hmr
    · obtain ⟨h0, o, ho, hall⟩ := mem_ready.1 hi
      have hin : i < ops.size := (Array.getElem?_eq_some_iff.1 ho).1
      have hil : listed[i]? = some false := by
        rw [Array.getD_eq_getD_getElem?, Array.getElem?_eq_getElem (by omega)] at h0
        rw [Array.getElem?_eq_getElem (by omega)]
        simpa using h0
      have hpred : ∀ e ∈ o.after, Region.binds .any e = true → listed[e.on]? = some true := fun e he hb => by
        have h1 := hall e he hb
        have hlt := hedge i o ho e he hb
        rw [Array.getD_eq_getD_getElem?, Array.getElem?_eq_getElem (by omega)] at h1
        rw [Array.getElem?_eq_getElem (by omega)]
        simpa using h1
      obtain ⟨T, hT⟩ : ∃ T, Tall[i]? = some T := ⟨Tall[i]'(by omega), List.getElem?_eq_getElem (by omega)⟩
      obtain ⟨vs', b, hvs, hfb, hop⟩ := (relGo_at hd hTlen l Ts k0 vs1 a a1 us hl hT1 hvl (fun i hi => by rw [hvs1 i hi, hpu1 us hpu i hi]) (hf1 us fun i hi => (hpu1 us hpu i hi).symm) hpu h).1 i o T (Nat.le_of_not_lt fun h1 => by rw [hk0 i h1] at hil; cases hil) ho hT
      have hag := eval_agree (a := a') (b := b) (ops := ops) (fun cs b => hsel i o cs b ho) (fun t ht => by
        refine hf.agree hd hfb t fun k q hk hq => ?_
        by_cases hki : k = i
        · subst hki
          exact .inr ⟨(fun e => (by rw [hil] at e; cases e)), Nat.lt_irrefl _⟩
        · rcases hlook k i q o t hk ho hki hq ht with ⟨hlt, e, he, hb, hon⟩ | ⟨hlt, e, he, hb, hon⟩
          · exact .inl ⟨hon ▸ hpred e he hb, hlt, rfl⟩
          · exact .inr ⟨(fun hS => (by
              have := hcl k q hk hS e he hb
              rw [hon, hil] at this; cases this)), by omega⟩)
      have next : ∀ v x', T.pu v → T.ho v x' → R x x' → wpAny P .any ops Q fuel (listed.setIfInBounds i true) (a'.put o.dst v) x' := by
        intro v x' hpv hhv hbx
        refine ih _ _ _ (fun k => if k = i then v else us k) (by simpa using hsz) ?_ ?_ (htrans hbel hbx) ?_ ?_ ?_ ?_
        · have hil' : listed.toList[i]'(by simp; omega) = false := by
            rw [Array.getElem?_eq_getElem (by omega)] at hil
            simpa using hil
          rw [Array.toList_setIfInBounds, List.count_set (by simp; omega), hil', hcnt]
          simp
        · intro k hk
          by_cases hki : k = i
          · subst hki; rw [Array.getElem?_setIfInBounds_self_of_lt (by omega)]
          · rw [Array.getElem?_setIfInBounds_ne (by omega)]; exact hk0 k hk
        · have := hf.put hd ho (vs' := fun k => if k = i then v else us k) v (by simp) (fun k _ hk => by simp [hk])
          refine ⟨this.size, this.defers, fun k q d hk hS => this.done k q d hk ?_, fun t ht => this.rest t fun k q hk hq hS => ht k q hk hq ?_⟩
          · by_cases hki : k = i
            · exact .inr hki
            · rw [Array.getElem?_setIfInBounds_ne (by omega)] at hS; exact .inl hS
          · rcases hS with hS | rfl
            · by_cases hki : k = i
              · subst hki; rw [hil] at hS; cases hS
              · rw [Array.getElem?_setIfInBounds_ne (by omega)]; exact hS
            · rw [Array.getElem?_setIfInBounds_self_of_lt (by omega)]
        · intro k T' hT'
          by_cases hki : k = i
          · subst hki
            rw [hT] at hT'; injection hT' with hT'; subst hT'
            simpa using hpv
          · simpa [hki] using hpu k T' hT'
        · intro k T' hT' hS
          by_cases hki : k = i
          · subst hki
            rw [hT] at hT'; injection hT' with hT'; subst hT'
            simpa using hhv
          · rw [Array.getElem?_setIfInBounds_ne (by omega)] at hS
            simp only [hki, if_false]
            exact T'.st _ _ _ (hho k T' hT' hS) hbx
        · intro k q hk hS e he hb
          by_cases hki : k = i
          · subst hki
            rw [ho] at hk; injection hk with hk; subst hk
            have hlt := hedge k o ho e he hb
            rw [Array.getElem?_setIfInBounds_ne (by omega)]
            exact hpred e he hb
          · rw [Array.getElem?_setIfInBounds_ne (by omega)] at hS
            have := hcl k q hk hS e he hb
            by_cases hei : e.on = i
            · rw [hei, hil] at this; cases this
            · rw [Array.getElem?_setIfInBounds_ne (by omega)]; exact this
      unfold wpOp
      simp only [ho]
      unfold opGoal at hop
      rw [hag.2]
      split
      · rename_i hw
        rw [if_pos hw] at hop
        refine .inl (upon_agree (hf.size.trans hfb.size.symm) (hf.defers.trans hfb.defers.symm) hag.1 (hop x hbel ?_) next)
        intro e he hb T' v hT' hv
        have hlt := hedge i o ho e (by simpa using he) hb
        rw [hvs e.on hlt] at hv
        injection hv with hv
        rw [← hv]
        exact hho e.on T' hT' (hpred e (by simpa using he) hb)
      · rename_i hw
        rw [if_neg hw] at hop
        exact next undef x hop.1 (hop.2 x) (hrefl _)
/-- Operation n waits for all ahead of it; all behind it wait for it. -/
def midB (l : List Oper) (n : Nat) : Bool := decide (n < l.length) && (List.range n).all (fun i => ((masks l []).getD n 0).testBit i) && (List.range l.length).all (fun j => decide (j ≤ n) || ((masks l []).getD j 0).testBit n)
theorem wp_region_mid (n : Nat) {P : Program} {id : Nat} {Q : Exit → Act → World → Prop} {a : Act} {w : World} {l : List Oper} (o : Oper) (ho : l[n]? = some o) (hg : o.guard = none) (hm : P.follows .mixedOrders = true) (hB : relB l.toArray = true) (hM : midB l n = true)
    (h0 : EqGo P l.toArray w (fun a' x => ∀ K : Act → World → Prop, (∀ v x', EqGo P l.toArray x' (fun a'' y => Q .normal a'' y) (l.drop (n + 1)) (a'.put o.dst v) → K (a'.put o.dst v) x') → o.wp P a' x K (fun _ _ _ => False)) (l.take n) a) : (Code.region id l.toArray true).wp P Q a w := by
  obtain ⟨hsel, hd, hedge, hlook⟩ := relB_spec hB
  obtain ⟨Ts, hlen, hrg⟩ := h0.rel
  have hgm : GoodM l.toArray (masks l []) := masks_spec l [] (fun k hk => by simp) (fun j i h => by simp at h)
  simp only [midB, Bool.and_eq_true, decide_eq_true_eq, List.all_eq_true, List.mem_range, Bool.or_eq_true] at hM
  obtain ⟨⟨hn, hM1⟩, hM2⟩ := hM
  have htl : (l.take n).length = n := by simp; omega
  rw [htl] at hlen
  have hahead : ∀ i, i < n → Reach l.toArray n i := fun i hi => hgm n i (hM1 i hi)
  have hbeh : ∀ j, n < j → j < l.toArray.size → Reach l.toArray j n := fun j h1 h2 => hgm j n ((hM2 j (by simpa using h2)).resolve_left (by omega))
  have hn : n < l.toArray.size := by simpa using hn
  have ho : l.toArray[n]? = some o := by simpa using ho
  have h := hrg Ts []
  generalize hops : l.toArray = ops at *
  have hl : ∀ j : Nat, j < (l.take n).length → (l.take n)[j]? = ops[0 + j]? := fun j hj => by
    rw [← hops]
    rw [htl] at hj
    simp [hj]
  have hpu0 : ∃ us : Nat → Value, ∀ (i : Nat) (T : TT), Ts[i]? = some T → T.pu (us i) := by
    refine ⟨fun i => match Ts[i]? with | some T => Classical.choose T.ne | none => undef, fun i T hT => ?_⟩
    simp only [hT]
    exact Classical.choose_spec T.ne
  obtain ⟨us0, hus0⟩ := hpu0
  refine wp_region_any hm ?_
  suffices H : ∀ (m : Nat) (listed : Array Bool) (a' : Act) (x : World) (us : Nat → Value), listed.size = ops.size → listed.toList.count false = m + (ops.size - n) → (∀ t : Nat, n ≤ t → t < ops.size → listed[t]? = some false) → BelR w x →
      FrameIs ops a a' (fun i => listed[i]? = some true) us → (∀ (i : Nat) (T : TT), Ts[i]? = some T → T.pu (us i)) → (∀ (i : Nat) (T : TT), Ts[i]? = some T → listed[i]? = some true → T.ho (us i) x) →
      (∀ (k : Nat) (q : Oper), ops[k]? = some q → listed[k]? = some true → ∀ e ∈ q.after, Region.binds .any e = true → listed[e.on]? = some true) → wpAny P .any ops Q (m + (ops.size - n)) listed a' x by
    have hs : n + (ops.size - n) = ops.size := by omega
    have H0 := H n (Array.replicate ops.size false) a { w with drawn := w.drawn + 1 } us0 (by simp) (by simp; omega) (fun t _ ht => by simp [ht]) ((Below.refl _ _).drew) (FrameIs.start fun i o hi => by
      have := (Array.getElem?_eq_some_iff.1 hi).1
      simp [this]) hus0 (fun i T _ hi => by simp [Array.getElem?_replicate] at hi) (fun k q _ hi => by simp [Array.getElem?_replicate] at hi)
    rw [hs] at H0
    exact H0
  intro m
  induction m with
  | zero =>
    intro listed a' x us hsz hcnt htail hbel hf hpu hho hcl
    have hall : ∀ i, i < n → listed[i]? = some true := by
      intro i hi
      have hsplit : listed.toList.count false = (listed.toList.take n).count false + (listed.toList.drop n).count false := by
        rw [← List.count_append, List.take_append_drop]
      have hdrop : (listed.toList.drop n).count false = ops.size - n := by
        rw [List.count_eq_length.2, List.length_drop, Array.length_toList, hsz]
        intro b hb
        obtain ⟨j, hj, rfl⟩ := List.mem_iff_getElem.1 hb
        have hj' : n + j < ops.size := by simp at hj; omega
        have := htail (n + j) (by omega) hj'
        rw [Array.getElem?_eq_getElem (by omega)] at this
        simp only [Option.some.injEq] at this
        rw [List.getElem_drop, Array.getElem_toList, this]
      have htake : (listed.toList.take n).count false = 0 := by omega
      have hi' : i < (listed.toList.take n).length := by simp; omega
      have hne : (listed.toList.take n)[i] ≠ false := fun e => by
        have hmem : false ∈ listed.toList.take n := by rw [← e]; exact List.getElem_mem _
        have := List.count_pos_iff.2 hmem
        omega
      have hv : listed[i]'(by omega) ≠ false := by simpa using hne
      rw [Array.getElem?_eq_getElem (by omega)]
      cases hb : listed[i]'(by omega) with
      | true => rfl
      | false => exact absurd hb hv
    obtain ⟨_, vs', b, hvs, hfb, hq⟩ := relGo_head hd hlen (l.take n) Ts 0 [] a a us (by omega) hl (fun j => by simp) rfl (fun i hi => by omega) (FrameIs.start fun i o _ => Nat.not_lt_zero i) hpu h
    have hab : a' = b := by
      have ht : a'.tmps = b.tmps := by
        apply Array.ext_getElem?
        intro t
        refine hf.agree hd hfb t fun i o hi _ => ?_
        rcases Nat.lt_or_ge i n with h1 | h1
        · exact .inl ⟨hall i h1, h1, rfl⟩
        · refine .inr ⟨fun e => ?_, by omega⟩
          rw [htail i h1 (Array.getElem?_eq_some_iff.1 hi).1] at e
          cases e
      have hdf : a'.defers = b.defers := hf.defers.trans hfb.defers.symm
      cases a'; cases b
      simp only at ht hdf
      rw [ht, hdf]
    have hq0 := hq x hbel fun i T v hT hv => by
      have hi : i < n := by rw [← hlen]; exact (List.getElem?_eq_some_iff.1 hT).1
      rw [hvs i hi] at hv
      injection hv with hv
      rw [← hv]
      exact hho i T hT (hall i hi)
    have hln : listed[n]? = some false := htail n (Nat.le_refl _) hn
    have hfuel : 0 + (ops.size - n) = (ops.size - n - 1) + 1 := by omega
    rw [hfuel]
    refine ⟨fun hrd => ?_, fun i hi => ?_⟩
    · exfalso
      have hmr : n ∈ Region.ready .any ops listed := by
        refine mem_ready.2 ⟨?_, o, ho, fun e he hb => ?_⟩
        · rw [Array.getD_eq_getD_getElem?, hln]; rfl
        · rw [Array.getD_eq_getD_getElem?, hall e.on (hedge n o ho e he hb)]; rfl
      rw [hrd] at hmr
      cases hmr
    · obtain ⟨h0, oi, hoi, halli⟩ := mem_ready.1 hi
      have hil : listed[i]? = some false := by
        have his := (Array.getElem?_eq_some_iff.1 hoi).1
        rw [Array.getD_eq_getD_getElem?, Array.getElem?_eq_getElem (by omega)] at h0
        rw [Array.getElem?_eq_getElem (by omega)]
        simpa using h0
      have hin : i = n := by
        rcases Nat.lt_trichotomy i n with h1 | h1 | h1
        · rw [hall i h1] at hil; cases hil
        · exact h1
        · exfalso
          have hrc := hbeh i h1 (Array.getElem?_eq_some_iff.1 hoi).1
          have hlt := hrc.listed (listed := listed) hcl (fun q hq' e he hb => by
            rw [hoi] at hq'
            injection hq' with hq'
            subst hq'
            have h2 := halli e he hb
            have h3 := hedge i oi hoi e he hb
            have his := (Array.getElem?_eq_some_iff.1 hoi).1
            rw [Array.getD_eq_getD_getElem?, Array.getElem?_eq_getElem (by omega)] at h2
            rw [Array.getElem?_eq_getElem (by omega)]
            simpa using h2)
          rw [hln] at hlt
          cases hlt
      subst hin
      rw [ho] at hoi
      injection hoi with hoi
      subst hoi
      unfold wpOp
      simp only [ho]
      rw [if_pos (by unfold Region.wanted; rw [hg])]
      rw [hab]
      refine .inl (upon_agree' (G := fun v x' => EqGo P ops x' (fun a'' y => Q .normal a'' y) (l.drop (i + 1)) (b.put o.dst v)) rfl rfl rfl hq0 ?_)
      intro v x' hG
      obtain ⟨Ts2, hl2, hr2⟩ := hG.rel
      have hvl : ((List.range i).map us ++ [v]).length = i + 1 := by simp
      refine relAny_from (R := BelR) (a1 := b.put o.dst v) (a := a) (w := x') (fun _ => Below.refl _ _) (fun h1 h2 => h1.trans (h2.mono h1.size)) hB (i + 1) (l.drop (i + 1)) (((List.range i).map us ++ [v]).map eqT ++ Ts2) Ts2 ((List.range i).map us ++ [v]) (fun k => if k = i then v else us k) ?_ ?_ ?_ hvl ?_ ?_ ?_ (hr2 _ _) (ops.size - i - 1) _ _ x' (fun k => if k < i + 1 then (if k = i then v else us k) else match Ts2[k - (i + 1)]? with | some T => Classical.choose T.ne | none => undef) ?_ ?_ ?_ (Below.refl _ _) ?_ ?_ ?_ ?_
      · rw [List.length_append, List.length_map, hvl, hl2]
        have : l.length = ops.size := by rw [← hops]; simp
        simp
        omega
      · intro j
        rw [← hops]
        simp
      · intro j
        rw [List.getElem?_append_right (by rw [List.length_map, hvl]; omega), List.length_map, hvl]
        congr 1
        omega
      · intro k hk
        by_cases hki : k = i
        · subst hki
          rw [List.getElem?_append_right (by simp)]
          simp
        · rw [List.getElem?_append_left (by simp; omega)]
          rw [List.getElem?_map, List.getElem?_range (by omega), if_neg hki]
          rfl
      · intro us2 hus2 k hk
        have hk' : (((List.range i).map us ++ [v]).map (eqT (R := BelR)) ++ Ts2)[k]? = some (eqT (if k = i then v else us k)) := by
          rw [List.getElem?_append_left (by rw [List.length_map, hvl]; omega), List.getElem?_map]
          by_cases hki : k = i
          · subst hki
            rw [List.getElem?_append_right (by simp)]
            simp
          · rw [List.getElem?_append_left (by simp; omega)]
            rw [List.getElem?_map, List.getElem?_range (by omega), if_neg hki]
            rfl
        exact (hus2 k _ hk').symm
      · intro us2 hus2
        have hfp := (FrameIs.put (vs' := us2) hd (h := (show FrameIs ops a b (fun k => k < i) us from hfb)) ho v (by rw [hus2 i (by omega)]; simp) (fun k hk hki => by rw [hus2 k (by omega), if_neg hki]))
        exact ⟨hfp.size, hfp.defers, fun k q d hq' hS => hfp.done k q d hq' (by have hS' : k < i + 1 := hS; show k < i ∨ k = i; omega), fun t ht => hfp.rest t (fun k q hq' hdst hS => ht k q hq' hdst (by have hS' : k < i ∨ k = i := hS; show k < i + 1; omega))⟩
      · simpa using hsz
      · have hil' : listed.toList[i]'(by simp; omega) = false := by
          rw [Array.getElem?_eq_getElem (by omega)] at hil
          simpa using hil
        rw [Array.toList_setIfInBounds, List.count_set (by simp; omega), hil', hcnt]
        simp
      · intro k hk
        by_cases hki : k = i
        · subst hki; rw [Array.getElem?_setIfInBounds_self_of_lt (by omega)]
        · rw [Array.getElem?_setIfInBounds_ne (by omega)]; exact hall k (by omega)
      · have hfp := (FrameIs.put (vs' := fun k => if k < i + 1 then (if k = i then v else us k) else match Ts2[k - (i + 1)]? with | some T => Classical.choose T.ne | none => undef) hd (h := (show FrameIs ops a b (fun k => k < i) us from hfb)) ho v (by simp) (fun k hk hki => by
          rw [if_pos (by omega), if_neg hki]))
        refine ⟨hfp.size, hfp.defers, fun k q d hq' hS => hfp.done k q d hq' ?_, fun t ht => hfp.rest t fun k q hq' hdst hS => ht k q hq' hdst ?_⟩
        · by_cases hki : k = i
          · exact .inr hki
          · rw [Array.getElem?_setIfInBounds_ne (by omega)] at hS
            rcases Nat.lt_or_ge k i with h1 | h1
            · exact .inl h1
            · rw [htail k h1 (Array.getElem?_eq_some_iff.1 hq').1] at hS; cases hS
        · rcases hS with hS | rfl
          · rw [Array.getElem?_setIfInBounds_ne (by omega)]; exact hall k hS
          · rw [Array.getElem?_setIfInBounds_self_of_lt (by omega)]
      · intro k T hT
        by_cases hk : k < i + 1
        · have hk' : (((List.range i).map us ++ [v]).map (eqT (R := BelR)) ++ Ts2)[k]? = some (eqT (if k = i then v else us k)) := by
            rw [List.getElem?_append_left (by rw [List.length_map, hvl]; omega), List.getElem?_map]
            by_cases hki : k = i
            · subst hki
              rw [List.getElem?_append_right (by simp)]
              simp
            · rw [List.getElem?_append_left (by simp; omega)]
              rw [List.getElem?_map, List.getElem?_range (by omega), if_neg hki]
              rfl
          rw [hk'] at hT
          injection hT with hT
          subst hT
          simp only [hk, if_true]
          exact rfl
        · rw [List.getElem?_append_right (by rw [List.length_map, hvl]; omega), List.length_map, hvl] at hT
          simp only [hk, if_false, hT]
          exact Classical.choose_spec T.ne
      · intro k T hT hS
        have hk : k < i + 1 := by
          rcases Nat.lt_or_ge k (i + 1) with h1 | h1
          · exact h1
          · rw [Array.getElem?_setIfInBounds_ne (by omega)] at hS
            have hks : k < listed.size := (Array.getElem?_eq_some_iff.1 hS).1
            rw [htail k (by omega) (by omega)] at hS
            cases hS
        have hk' : (((List.range i).map us ++ [v]).map (eqT (R := BelR)) ++ Ts2)[k]? = some (eqT (if k = i then v else us k)) := by
          rw [List.getElem?_append_left (by rw [List.length_map, hvl]; omega), List.getElem?_map]
          by_cases hki : k = i
          · subst hki
            rw [List.getElem?_append_right (by simp)]
            simp
          · rw [List.getElem?_append_left (by simp; omega)]
            rw [List.getElem?_map, List.getElem?_range (by omega), if_neg hki]
            rfl
        rw [hk'] at hT
        injection hT with hT
        subst hT
        trivial
      · intro k q hk hS e he hb
        have hlt := hedge k q hk e he hb
        have hki : k < i + 1 := by
          rcases Nat.lt_or_ge k (i + 1) with h1 | h1
          · exact h1
          · rw [Array.getElem?_setIfInBounds_ne (by omega)] at hS
            rw [htail k (by omega) (Array.getElem?_eq_some_iff.1 hk).1] at hS
            cases hS
        rw [Array.getElem?_setIfInBounds_ne (by omega)]
        exact hall e.on (by omega)
  | succ m ih =>
    intro listed a' x us hsz hcnt htail hbel hf hpu hho hcl
    have hgetD : ∀ (i : Nat) (d : Bool), i < ops.size → listed.getD i d = listed[i]?.getD d := fun i d _ => Array.getD_eq_getD_getElem?
    have hexh : ∃ k, k < n ∧ listed[k]? = some false := by
      rcases Classical.em (∃ k, k < n ∧ listed[k]? = some false) with h1 | h1
      · exact h1
      · exfalso
        have hsplit : listed.toList.count false = (listed.toList.take n).count false + (listed.toList.drop n).count false := by
          rw [← List.count_append, List.take_append_drop]
        have hdrop : (listed.toList.drop n).count false ≤ ops.size - n := by
          have := List.count_le_length (a := false) (l := listed.toList.drop n)
          rw [List.length_drop, Array.length_toList, hsz] at this
          exact this
        have htake : (listed.toList.take n).count false = 0 := by
          rw [List.count_eq_zero]
          intro hmem
          obtain ⟨k, hk, hkv⟩ := List.mem_iff_getElem.1 hmem
          have hk' : k < n ∧ k < listed.size := by simp at hk; omega
          refine h1 ⟨k, hk'.1, ?_⟩
          rw [Array.getElem?_eq_getElem hk'.2]
          simpa using hkv
        omega
    obtain ⟨k0, hk0, hk0v⟩ := hexh
    have hnotail : ∀ t, n ≤ t → t ∉ Region.ready .any ops listed := by
      intro t ht hmt
      obtain ⟨_, ot, hot, hallt⟩ := mem_ready.1 hmt
      have hts := (Array.getElem?_eq_some_iff.1 hot).1
      have hdt : ∀ q, ops[t]? = some q → ∀ e ∈ q.after, Region.binds .any e = true → listed[e.on]? = some true := fun q hq e he hb => by
        rw [hot] at hq
        injection hq with hq
        subst hq
        have h2 := hallt e he hb
        have h3 := hedge t ot hot e he hb
        rw [Array.getD_eq_getD_getElem?, Array.getElem?_eq_getElem (by omega)] at h2
        rw [Array.getElem?_eq_getElem (by omega)]
        simpa using h2
      rcases Nat.lt_or_ge n t with h1 | h1
      · have := (hbeh t h1 hts).listed (listed := listed) hcl hdt
        rw [htail n (Nat.le_refl _) hn] at this
        cases this
      · obtain rfl : t = n := by omega
        have := (hahead k0 hk0).listed (listed := listed) hcl hdt
        rw [hk0v] at this
        cases this
    have hfuel : m + 1 + (ops.size - n) = (m + (ops.size - n)) + 1 := by omega
    rw [hfuel]
    refine ⟨fun hr => ?_, fun i hi => ?_⟩
    · exfalso
      obtain ⟨n1, ⟨hn1, hnl⟩, hmin⟩ := exists_least (p := fun k => k < n ∧ listed[k]? ≠ some true) ⟨k0, hk0, by rw [hk0v]; simp⟩
      obtain ⟨o, ho⟩ : ∃ o, ops[n1]? = some o := ⟨ops[n1]'(by omega), Array.getElem?_eq_getElem (by omega)⟩
      have hmr : n1 ∈ Region.ready .any ops listed := by
        refine mem_ready.2 ⟨?_, o, ho, fun e he hb => ?_⟩
        · rw [Array.getD_eq_getD_getElem?, Array.getElem?_eq_getElem (by omega)]
          rw [Array.getElem?_eq_getElem (by omega)] at hnl
          simpa using hnl
        · have hlt := hedge n1 o ho e he hb
          have : listed[e.on]? = some true := by
            rcases Classical.em (listed[e.on]? = some true) with h1 | h1
            · exact h1
            · have := hmin e.on ⟨by omega, h1⟩; omega
          rw [Array.getD_eq_getD_getElem?, this]; rfl
      rw [hr] at hmr
      cases hmr
    · have hin : i < n := by
        rcases Nat.lt_or_ge i n with h1 | h1
        · exact h1
        · exact absurd hi (hnotail i h1)
      obtain ⟨h0, o, ho, hall⟩ := mem_ready.1 hi
      have hil : listed[i]? = some false := by
        rw [Array.getD_eq_getD_getElem?, Array.getElem?_eq_getElem (by omega)] at h0
        rw [Array.getElem?_eq_getElem (by omega)]
        simpa using h0
      have hpred : ∀ e ∈ o.after, Region.binds .any e = true → listed[e.on]? = some true := fun e he hb => by
        have h1 := hall e he hb
        have hlt := hedge i o ho e he hb
        rw [Array.getD_eq_getD_getElem?, Array.getElem?_eq_getElem (by omega)] at h1
        rw [Array.getElem?_eq_getElem (by omega)]
        simpa using h1
      obtain ⟨T, hT⟩ : ∃ T, Ts[i]? = some T := ⟨Ts[i]'(by omega), List.getElem?_eq_getElem (by omega)⟩
      obtain ⟨vs', b, hvs, hfb, hop⟩ := (relGo_head hd hlen (l.take n) Ts 0 [] a a us (by omega) hl (fun j => by simp) rfl (fun i hi => by omega) (FrameIs.start fun i o _ => Nat.not_lt_zero i) hpu h).1 i o T (Nat.zero_le _) hin ho hT
      have hag := eval_agree (a := a') (b := b) (ops := ops) (fun cs b => hsel i o cs b ho) (fun t ht => by
        refine hf.agree hd hfb t fun k q hk hq => ?_
        by_cases hki : k = i
        · subst hki
          exact .inr ⟨(fun e => (by rw [hil] at e; cases e)), Nat.lt_irrefl _⟩
        · rcases hlook k i q o t hk ho hki hq ht with ⟨hlt, e, he, hb, hon⟩ | ⟨hlt, e, he, hb, hon⟩
          · exact .inl ⟨hon ▸ hpred e he hb, hlt, rfl⟩
          · exact .inr ⟨(fun hS => (by
              have := hcl k q hk hS e he hb
              rw [hon, hil] at this; cases this)), by omega⟩)
      have next : ∀ v x', T.pu v → T.ho v x' → BelR x x' → wpAny P .any ops Q (m + (ops.size - n)) (listed.setIfInBounds i true) (a'.put o.dst v) x' := by
        intro v x' hpv hhv hbx
        refine ih _ _ _ (fun k => if k = i then v else us k) (by simpa using hsz) ?_ ?_ (hbel.trans (hbx.mono hbel.size)) ?_ ?_ ?_ ?_
        · have hil' : listed.toList[i]'(by simp; omega) = false := by
            rw [Array.getElem?_eq_getElem (by omega)] at hil
            simpa using hil
          rw [Array.toList_setIfInBounds, List.count_set (by simp; omega), hil', hcnt]
          simp <;> omega
        · intro t ht hts
          rw [Array.getElem?_setIfInBounds_ne (by omega)]
          exact htail t ht hts
        · have := hf.put hd ho (vs' := fun k => if k = i then v else us k) v (by simp) (fun k _ hk => by simp [hk])
          refine ⟨this.size, this.defers, fun k q d hk hS => this.done k q d hk ?_, fun t ht => this.rest t fun k q hk hq hS => ht k q hk hq ?_⟩
          · by_cases hki : k = i
            · exact .inr hki
            · rw [Array.getElem?_setIfInBounds_ne (by omega)] at hS; exact .inl hS
          · rcases hS with hS | rfl
            · by_cases hki : k = i
              · subst hki; rw [hil] at hS; cases hS
              · rw [Array.getElem?_setIfInBounds_ne (by omega)]; exact hS
            · rw [Array.getElem?_setIfInBounds_self_of_lt (by omega)]
        · intro k T' hT'
          by_cases hki : k = i
          · subst hki
            rw [hT] at hT'; injection hT' with hT'; subst hT'
            simpa using hpv
          · simpa [hki] using hpu k T' hT'
        · intro k T' hT' hS
          by_cases hki : k = i
          · subst hki
            rw [hT] at hT'; injection hT' with hT'; subst hT'
            simpa using hhv
          · rw [Array.getElem?_setIfInBounds_ne (by omega)] at hS
            simp only [hki, if_false]
            exact T'.st _ _ _ (hho k T' hT' hS) hbx
        · intro k q hk hS e he hb
          by_cases hki : k = i
          · subst hki
            rw [ho] at hk; injection hk with hk; subst hk
            have hlt := hedge k o ho e he hb
            rw [Array.getElem?_setIfInBounds_ne (by omega)]
            exact hpred e he hb
          · rw [Array.getElem?_setIfInBounds_ne (by omega)] at hS
            have := hcl k q hk hS e he hb
            by_cases hei : e.on = i
            · rw [hei, hil] at this; cases this
            · rw [Array.getElem?_setIfInBounds_ne (by omega)]; exact this
      unfold wpOp
      simp only [ho]
      unfold opGoal at hop
      rw [hag.2]
      split
      · rename_i hw
        rw [if_pos hw] at hop
        refine .inl (upon_agree (hf.size.trans hfb.size.symm) (hf.defers.trans hfb.defers.symm) hag.1 (hop x hbel ?_) next)
        intro e he hb T' v hT' hv
        have hlt := hedge i o ho e (by simpa using he) hb
        rw [hvs e.on hlt] at hv
        injection hv with hv
        rw [← hv]
        exact hho e.on T' hT' (hpred e (by simpa using he) hb)
      · rename_i hw
        rw [if_neg hw] at hop
        exact next undef x hop.1 (hop.2 x) (Below.refl _ _)

end Go.Proofs.YtpogngdddendiaaDoor
