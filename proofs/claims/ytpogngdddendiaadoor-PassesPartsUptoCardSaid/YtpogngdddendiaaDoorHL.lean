/- A region that draws its order and ends in operations that wait for all others (an append, a store): one walk in the order of the text ahead of these, and a plain walk over these. No condition. -/
import Derived.Test.YtpogngdddendiaaDoorHE
import Derived.StillTail
import Derived.Test.YtpogngdddendiaaDoorHI
import Derived.Test.YtpogngdddendiaaDoorConW3
import Derived.Deep.LoopGhost
set_option linter.unusedVariables false
set_option linter.unusedSimpArgs false
namespace Go.Proofs.YtpogngdddendiaaDoor
open Go.RowKit

section
variable {R : World → World → Prop} {P : Program} {ops : Array Oper} {w0 : World} {Tall : List (TTR R)} {Q : Act → World → Prop}
theorem relGo_head (hd : Distinct ops) {n : Nat} (hlen : Tall.length = n) : ∀ (l : List Oper) (Ts : List (TTR R)) (k : Nat) (vs : List Value) (a0 a : Act) (us : Nat → Value), k + l.length = n → (∀ j : Nat, j < l.length → l[j]? = ops[k + j]?) → (∀ j : Nat, Ts[j]? = Tall[k + j]?) → vs.length = k →
    (∀ i : Nat, i < k → vs[i]? = some (us i)) → FrameIs ops a0 a (fun i => i < k) us → (∀ (i : Nat) (T : TTR R), Tall[i]? = some T → T.pu (us i)) → RelGo P ops w0 Tall Q l Ts vs a →
    (∀ (j : Nat) (o : Oper) (T : TTR R), k ≤ j → j < n → ops[j]? = some o → Tall[j]? = some T → ∃ (vs' : List Value) (b : Act), (∀ i, i < j → vs'[i]? = some (us i)) ∧ FrameIs ops a0 b (fun i => i < j) us ∧ opGoal P ops w0 Tall T o vs' b) ∧
    ∃ (vs' : List Value) (b : Act), (∀ i, i < n → vs'[i]? = some (us i)) ∧ FrameIs ops a0 b (fun i => i < n) us ∧ ∀ x, R w0 x → (∀ (i : Nat) (T : TTR R) (v : Value), Tall[i]? = some T → vs'[i]? = some v → T.ho v x) → Q b x := by
  intro l
  induction l with
  | nil =>
    intro Ts k vs a0 a us hkn hl hT hk hvs hf hpu h
    have hkn' : k = n := by simpa using hkn
    subst hkn'
    exact ⟨fun j o T hj hjn => by omega, vs, a, hvs, hf, h⟩
  | cons o l ih =>
    intro Ts k vs a0 a us hkn hl hT hk hvs hf hpu h
    have ho : ops[k]? = some o := by simpa using (hl 0 (by simp)).symm
    cases Ts with
    | nil => exact h.elim
    | cons T Ts =>
      have hTk : Tall[k]? = some T := by simpa using (hT 0).symm
      obtain ⟨h1, h2⟩ := h
      have hrec := ih Ts (k + 1) (vs ++ [us k]) a0 (a.put o.dst (us k)) us (by simp at hkn; omega) (fun j hj => by have := hl (j + 1) (by simp; omega); simpa [Nat.add_assoc, Nat.add_comm 1 j] using this) (fun j => by have := hT (j + 1); simpa [Nat.add_assoc, Nat.add_comm 1 j] using this) (by simp [hk])
        (fun i hi => by
          by_cases hik : i < k
          · rw [List.getElem?_append_left (by omega)]; exact hvs i hik
          · have : i = k := by omega
            subst this
            rw [List.getElem?_append_right (by omega), hk]; simp)
        (by
          have := hf.put hd ho (vs' := us) (us k) rfl (fun _ _ _ => rfl)
          exact ⟨this.size, this.defers, fun i q d hq hS => this.done i q d hq (by have hS' : i < k + 1 := hS; show i < k ∨ i = k; omega), fun t ht => this.rest t (fun i q hq hdst hS => ht i q hq hdst (by have hS' : i < k ∨ i = k := hS; show i < k + 1; omega))⟩)
        hpu (h2 (us k) (hpu k T hTk))
      refine ⟨fun j o' T' hj hjn ho' hT' => ?_, hrec.2⟩
      by_cases hjk : j = k
      · subst hjk
        rw [ho] at ho'
        injection ho' with ho'
        subst ho'
        rw [hTk] at hT'
        injection hT' with hT'
        subst hT'
        exact ⟨vs, a, hvs, hf, h1⟩
      · exact hrec.1 j o' T' (by omega) hjn ho' hT'
end

def headListed (n m : Nat) : Array Bool := (List.replicate n true ++ List.replicate m false).toArray
/-- The operations from n on wait for all others, one behind the other. -/
def tailB (ops : Array Oper) (n : Nat) : Bool := decide (n < ops.size) && Region.sinkB .any ops n && Region.chainB .any ops n && Region.seqB .any ops (ops.size - n) n (headListed n (ops.size - n))

theorem wp_region_relT {R : World → World → Prop} (hrefl : ∀ x, R x x) (htrans : ∀ {x y z}, R x y → R y z → R x z) {P : Program} {id : Nat} {Q : Exit → Act → World → Prop} {a : Act} {w : World} {l : List Oper} (hdrew : R w { w with drawn := w.drawn + 1 }) (n : Nat) (Ts : List (TTR R)) (hm : P.follows .mixedOrders = true) (hB : relB l.toArray = true) (hT : tailB l.toArray n = true) (hlen : Ts.length = n)
    (h : RelGo P l.toArray w Ts (fun a' x => wpList P l.toArray Q (l.drop n) a' x) (l.take n) Ts [] a) : (Code.region id l.toArray true).wp P Q a w := by
  obtain ⟨hsel, hd, hedge, hlook⟩ := relB_spec hB
  simp only [tailB, Bool.and_eq_true, decide_eq_true_eq] at hT
  obtain ⟨⟨⟨hn, hsink⟩, hchain⟩, hseq⟩ := hT
  have htl : (l.take n).length = n := by simp at hn ⊢; omega
  have hdl : (l.drop n).length = l.toArray.size - n := by simp
  have hldrop : ∀ j, (l.drop n)[j]? = l.toArray[n + j]? := fun j => by simp
  generalize hops : l.toArray = ops at *
  have hl : ∀ j : Nat, j < (l.take n).length → (l.take n)[j]? = ops[0 + j]? := fun j hj => by
    rw [← hops]
    rw [htl] at hj
    simp [hj]
  have hpu0 : ∃ us : Nat → Value, ∀ (i : Nat) (T : TTR R), Ts[i]? = some T → T.pu (us i) := by
    refine ⟨fun i => match Ts[i]? with | some T => Classical.choose T.ne | none => undef, fun i T hT => ?_⟩
    simp only [hT]
    exact Classical.choose_spec T.ne
  obtain ⟨us0, hus0⟩ := hpu0
  refine wp_region_any hm ?_
  suffices H : ∀ (m : Nat) (listed : Array Bool) (a' : Act) (x : World) (us : Nat → Value), listed.size = ops.size → listed.toList.count false = m + (ops.size - n) → (∀ t : Nat, n ≤ t → t < ops.size → listed[t]? = some false) → R w x →
      FrameIs ops a a' (fun i => listed[i]? = some true) us → (∀ (i : Nat) (T : TTR R), Ts[i]? = some T → T.pu (us i)) → (∀ (i : Nat) (T : TTR R), Ts[i]? = some T → listed[i]? = some true → T.ho (us i) x) →
      (∀ (k : Nat) (q : Oper), ops[k]? = some q → listed[k]? = some true → ∀ e ∈ q.after, Region.binds .any e = true → listed[e.on]? = some true) → wpAny P .any ops Q (m + (ops.size - n)) listed a' x by
    have hs : n + (ops.size - n) = ops.size := by omega
    have H0 := H n (Array.replicate ops.size false) a { w with drawn := w.drawn + 1 } us0 (by simp) (by simp; omega) (fun t _ ht => by simp [ht]) hdrew (FrameIs.start fun i o hi => by
      have := (Array.getElem?_eq_some_iff.1 hi).1
      simp [this]) hus0 (fun i T _ hi => by simp [Array.getElem?_replicate] at hi) (fun k q _ hi => by simp [Array.getElem?_replicate] at hi)
    rw [hs] at H0
    exact H0
  intro m
  induction m with
  | zero =>
    intro listed a' x us hsz hcnt htail hbel hf hpu hho hcl
    have hall : ∀ i, i < n → listed[i]? = some true := by
      intro i hi
      have hsplit : listed.toList.count false = (listed.toList.take n).count false + (listed.toList.drop n).count false := by
        rw [← List.count_append, List.take_append_drop]
      have hdrop : (listed.toList.drop n).count false = ops.size - n := by
        rw [List.count_eq_length.2, List.length_drop, Array.length_toList, hsz]
        intro b hb
        obtain ⟨j, hj, rfl⟩ := List.mem_iff_getElem.1 hb
        have hj' : n + j < ops.size := by simp at hj; omega
        have := htail (n + j) (by omega) hj'
        rw [Array.getElem?_eq_getElem (by omega)] at this
        simp only [Option.some.injEq] at this
        rw [List.getElem_drop, Array.getElem_toList, this]
      have htake : (listed.toList.take n).count false = 0 := by omega
      have hi' : i < (listed.toList.take n).length := by simp; omega
      have hne : (listed.toList.take n)[i] ≠ false := fun e => by
        have hmem : false ∈ listed.toList.take n := by rw [← e]; exact List.getElem_mem _
        have := List.count_pos_iff.2 hmem
        omega
      have hv : listed[i]'(by omega) ≠ false := by simpa using hne
      rw [Array.getElem?_eq_getElem (by omega)]
      cases hb : listed[i]'(by omega) with
      | true => rfl
      | false => exact absurd hb hv
    have hlist : listed = headListed n (ops.size - n) := by
      apply Array.ext_getElem?
      intro i
      rcases Nat.lt_or_ge i n with hi | hi
      · rw [hall i hi]
        simp [headListed, List.getElem?_append, hi]
      · rcases Nat.lt_or_ge i ops.size with h2 | h2
        · rw [htail i hi h2]
          simp only [headListed, List.getElem?_toArray]
          rw [List.getElem?_append_right (by simpa using hi), List.length_replicate, List.getElem?_replicate]
          rw [if_pos (by omega)]
        · rw [Array.getElem?_eq_none (by omega), Array.getElem?_eq_none (by simp [headListed]; omega)]
    obtain ⟨_, vs', b, hvs, hfb, hq⟩ := relGo_head hd hlen (l.take n) Ts 0 [] a a us (by omega) hl (fun j => by simp) rfl (fun i hi => by omega) (FrameIs.start fun i o _ => Nat.not_lt_zero i) hpu h
    have hab : a' = b := by
      have ht : a'.tmps = b.tmps := by
        apply Array.ext_getElem?
        intro t
        refine hf.agree hd hfb t fun i o hi _ => ?_
        rcases Nat.lt_or_ge i n with h1 | h1
        · exact .inl ⟨hall i h1, h1, rfl⟩
        · refine .inr ⟨fun e => ?_, by omega⟩
          rw [htail i h1 (Array.getElem?_eq_some_iff.1 hi).1] at e
          cases e
      have hdf : a'.defers = b.defers := hf.defers.trans hfb.defers.symm
      cases a'; cases b
      simp only at ht hdf
      rw [ht, hdf]
    rw [hab, Nat.zero_add, ← hdl]
    refine wpAny_of_seq (l.drop n) n listed b x hldrop (by rw [hdl, hlist]; exact hseq) ?_
    refine hq x hbel fun i T v hT hv => ?_
    have hi : i < n := by rw [← hlen]; exact (List.getElem?_eq_some_iff.1 hT).1
    rw [hvs i hi] at hv
    injection hv with hv
    rw [← hv]
    exact hho i T hT (hall i hi)
  | succ m ih =>
    intro listed a' x us hsz hcnt htail hbel hf hpu hho hcl
    have hgetD : ∀ (i : Nat) (d : Bool), i < ops.size → listed.getD i d = listed[i]?.getD d := fun i d _ => Array.getD_eq_getD_getElem?
    have inv : HeadInv .any ops n listed := ⟨hsz, fun j oj hj hl e he hb => by
      have hjs := (Array.getElem?_eq_some_iff.1 hj).1
      have : listed[j]? = some true := by
        rw [Array.getD_eq_getD_getElem?, Array.getElem?_eq_getElem (by omega)] at hl
        rw [Array.getElem?_eq_getElem (by omega)]
        simpa using hl
      rw [Array.getD_eq_getD_getElem?, hcl j oj hj this e he hb]; rfl, fun t ht hts => by
      rw [Array.getD_eq_getD_getElem?, htail t ht hts]; rfl⟩
    have hexh : ∃ k, k < n ∧ listed[k]? = some false := by
      rcases Classical.em (∃ k, k < n ∧ listed[k]? = some false) with h1 | h1
      · exact h1
      · exfalso
        have hsplit : listed.toList.count false = (listed.toList.take n).count false + (listed.toList.drop n).count false := by
          rw [← List.count_append, List.take_append_drop]
        have hdrop : (listed.toList.drop n).count false ≤ ops.size - n := by
          have := List.count_le_length (a := false) (l := listed.toList.drop n)
          rw [List.length_drop, Array.length_toList, hsz] at this
          exact this
        have htake : (listed.toList.take n).count false = 0 := by
          rw [List.count_eq_zero]
          intro hmem
          obtain ⟨k, hk, hkv⟩ := List.mem_iff_getElem.1 hmem
          have hk' : k < n ∧ k < listed.size := by simp at hk; omega
          refine h1 ⟨k, hk'.1, ?_⟩
          rw [Array.getElem?_eq_getElem hk'.2]
          simpa using hkv
        omega
    obtain ⟨k0, hk0, hk0v⟩ := hexh
    have hnotail : ∀ t, n ≤ t → t ∉ Region.ready .any ops listed := tail_waits hsink hchain hn inv (n - k0) k0 rfl hk0 (by rw [Array.getD_eq_getD_getElem?, hk0v]; rfl)
    have hfuel : m + 1 + (ops.size - n) = (m + (ops.size - n)) + 1 := by omega
    rw [hfuel]
    refine ⟨fun hr => ?_, fun i hi => ?_⟩
    · exfalso
      obtain ⟨n1, ⟨hn1, hnl⟩, hmin⟩ := exists_least (p := fun k => k < n ∧ listed[k]? ≠ some true) ⟨k0, hk0, by rw [hk0v]; simp⟩
      obtain ⟨o, ho⟩ : ∃ o, ops[n1]? = some o := ⟨ops[n1]'(by omega), Array.getElem?_eq_getElem (by omega)⟩
      have hmr : n1 ∈ Region.ready .any ops listed := by
        refine mem_ready.2 ⟨?_, o, ho, fun e he hb => ?_⟩
        · rw [Array.getD_eq_getD_getElem?, Array.getElem?_eq_getElem (by omega)]
          rw [Array.getElem?_eq_getElem (by omega)] at hnl
          simpa using hnl
        · have hlt := hedge n1 o ho e he hb
          have : listed[e.on]? = some true := by
            rcases Classical.em (listed[e.on]? = some true) with h1 | h1
            · exact h1
            · have := hmin e.on ⟨by omega, h1⟩; omega
          rw [Array.getD_eq_getD_getElem?, this]; rfl
      rw [hr] at hmr
      cases hmr
    · have hin : i < n := by
        rcases Nat.lt_or_ge i n with h1 | h1
        · exact h1
        · exact absurd hi (hnotail i h1)
      obtain ⟨h0, o, ho, hall⟩ := mem_ready.1 hi
      have hil : listed[i]? = some false := by
        rw [Array.getD_eq_getD_getElem?, Array.getElem?_eq_getElem (by omega)] at h0
        rw [Array.getElem?_eq_getElem (by omega)]
        simpa using h0
      have hpred : ∀ e ∈ o.after, Region.binds .any e = true → listed[e.on]? = some true := fun e he hb => by
        have h1 := hall e he hb
        have hlt := hedge i o ho e he hb
        rw [Array.getD_eq_getD_getElem?, Array.getElem?_eq_getElem (by omega)] at h1
        rw [Array.getElem?_eq_getElem (by omega)]
        simpa using h1
      obtain ⟨T, hT⟩ : ∃ T, Ts[i]? = some T := ⟨Ts[i]'(by omega), List.getElem?_eq_getElem (by omega)⟩
      obtain ⟨vs', b, hvs, hfb, hop⟩ := (relGo_head hd hlen (l.take n) Ts 0 [] a a us (by omega) hl (fun j => by simp) rfl (fun i hi => by omega) (FrameIs.start fun i o _ => Nat.not_lt_zero i) hpu h).1 i o T (Nat.zero_le _) hin ho hT
      have hag := eval_agree (a := a') (b := b) (ops := ops) (fun cs b => hsel i o cs b ho) (fun t ht => by
        refine hf.agree hd hfb t fun k q hk hq => ?_
        by_cases hki : k = i
        · subst hki
          exact .inr ⟨(fun e => (by rw [hil] at e; cases e)), Nat.lt_irrefl _⟩
        · rcases hlook k i q o t hk ho hki hq ht with ⟨hlt, e, he, hb, hon⟩ | ⟨hlt, e, he, hb, hon⟩
          · exact .inl ⟨hon ▸ hpred e he hb, hlt, rfl⟩
          · exact .inr ⟨(fun hS => (by
              have := hcl k q hk hS e he hb
              rw [hon, hil] at this; cases this)), by omega⟩)
      have next : ∀ v x', T.pu v → T.ho v x' → R x x' → wpAny P .any ops Q (m + (ops.size - n)) (listed.setIfInBounds i true) (a'.put o.dst v) x' := by
        intro v x' hpv hhv hbx
        refine ih _ _ _ (fun k => if k = i then v else us k) (by simpa using hsz) ?_ ?_ (htrans hbel hbx) ?_ ?_ ?_ ?_
        · have hil' : listed.toList[i]'(by simp; omega) = false := by
            rw [Array.getElem?_eq_getElem (by omega)] at hil
            simpa using hil
          rw [Array.toList_setIfInBounds, List.count_set (by simp; omega), hil', hcnt]
          simp <;> omega
        · intro t ht hts
          rw [Array.getElem?_setIfInBounds_ne (by omega)]
          exact htail t ht hts
        · have := hf.put hd ho (vs' := fun k => if k = i then v else us k) v (by simp) (fun k _ hk => by simp [hk])
          refine ⟨this.size, this.defers, fun k q d hk hS => this.done k q d hk ?_, fun t ht => this.rest t fun k q hk hq hS => ht k q hk hq ?_⟩
          · by_cases hki : k = i
            · exact .inr hki
            · rw [Array.getElem?_setIfInBounds_ne (by omega)] at hS; exact .inl hS
          · rcases hS with hS | rfl
            · by_cases hki : k = i
              · subst hki; rw [hil] at hS; cases hS
              · rw [Array.getElem?_setIfInBounds_ne (by omega)]; exact hS
            · rw [Array.getElem?_setIfInBounds_self_of_lt (by omega)]
        · intro k T' hT'
          by_cases hki : k = i
          · subst hki
            rw [hT] at hT'; injection hT' with hT'; subst hT'
            simpa using hpv
          · simpa [hki] using hpu k T' hT'
        · intro k T' hT' hS
          by_cases hki : k = i
          · subst hki
            rw [hT] at hT'; injection hT' with hT'; subst hT'
            simpa using hhv
          · rw [Array.getElem?_setIfInBounds_ne (by omega)] at hS
            simp only [hki, if_false]
            exact T'.st _ _ _ (hho k T' hT' hS) hbx
        · intro k q hk hS e he hb
          by_cases hki : k = i
          · subst hki
            rw [ho] at hk; injection hk with hk; subst hk
            have hlt := hedge k o ho e he hb
            rw [Array.getElem?_setIfInBounds_ne (by omega)]
            exact hpred e he hb
          · rw [Array.getElem?_setIfInBounds_ne (by omega)] at hS
            have := hcl k q hk hS e he hb
            by_cases hei : e.on = i
            · rw [hei, hil] at this; cases this
            · rw [Array.getElem?_setIfInBounds_ne (by omega)]; exact this
      unfold wpOp
      simp only [ho]
      unfold opGoal at hop
      rw [hag.2]
      split
      · rename_i hw
        rw [if_pos hw] at hop
        refine .inl (upon_agree (hf.size.trans hfb.size.symm) (hf.defers.trans hfb.defers.symm) hag.1 (hop x hbel ?_) next)
        intro e he hb T' v hT' hv
        have hlt := hedge i o ho e (by simpa using he) hb
        rw [hvs e.on hlt] at hv
        injection hv with hv
        rw [← hv]
        exact hho e.on T' hT' (hpred e (by simpa using he) hb)
      · rename_i hw
        rw [if_neg hw] at hop
        exact next undef x hop.1 (hop.2 x) (hrefl _)

/-- .. where all that was there stands as it stood ahead of these. -/
theorem wp_region_relA {P : Program} {id : Nat} {Q : Exit → Act → World → Prop} {a : Act} {w : World} {l : List Oper} (n : Nat) (Ts : List TT) (hm : P.follows .mixedOrders = true) (hB : relB l.toArray = true) (hT : tailB l.toArray n = true) (hlen : Ts.length = n)
    (h : RelGo P l.toArray w Ts (fun a' x => wpList P l.toArray Q (l.drop n) a' x) (l.take n) Ts [] a) : (Code.region id l.toArray true).wp P Q a w :=
  wp_region_relT (R := BelR) (fun _ => Below.refl _ _) (fun h1 h2 => h1.trans (h2.mono h1.size)) ((Below.refl _ _).drew) n Ts hm hB hT hlen h
end Go.Proofs.YtpogngdddendiaaDoor

/- The walk over consts.opened. Bounds on the lengths. -/
set_option linter.unusedVariables false
set_option linter.unusedSimpArgs false
namespace Go.Proofs.YtpogngdddendiaaDoor
open Go.RowKit

/-- A row of trees comes back. -/
def RowTRet (B : Nat) (ts : List Tr) (w : World) (e : Ending) (w' : World) : Prop := ∃ A m c, e = .returned (.slice A m c) ∧ RowO w' B A m c ts ∧ Below w.heap.size w w'
/-- The first tree of a row, its head. -/
theorem RowO.at_ {w : World} {B m c : Nat} {A : Option Addr} {ts : List Tr} (h : RowO w B A m c ts) {k : Nat} (hk : k < ts.length) :
    ∃ b o Ak nk ck, A = some ⟨b, o, none⟩ ∧ b < w.heap.size ∧ w.cell? ⟨b, o + k, none⟩ = some (.slice Ak nk ck) ∧ OwnNd w B (.slice Ak nk ck) (flat ts[k]) := by
  obtain ⟨b, o, n, ck, Ak, hA, hb, hc, ho⟩ := h.kd.at_ (k := k) (by simpa using hk)
  rw [List.getElem_map] at ho
  exact ⟨b, o, Ak, n, ck, hA, hb, hc, ho⟩
theorem RowO.tail {w : World} {B m c b o : Nat} {t : Tr} {ts : List Tr} (h : RowO w B (some ⟨b, o, none⟩) (m + 1) c (t :: ts)) : ∃ vs, RdL w 1 one1 (some ⟨b, o + 1, none⟩) vs ∧ OwnAll w B vs (ts.map flat) ∧ vs.length = m := by
  obtain ⟨vs, h1, h2⟩ := h.kd
  have hl := h.len
  have hvl : vs.length = m + 1 := by rw [h2.1, List.length_map]; exact hl.symm
  refine ⟨vs.drop 1, h1.drop 1 (A' := some ⟨b, o + 1, none⟩) (fun b' o' he _ => by simp only [Option.some.injEq, Addr.mk.injEq, and_true] at he; obtain ⟨rfl, rfl⟩ := he; rfl), ⟨?_, fun i hi v hv => ?_⟩, by rw [List.length_drop, hvl]; rfl⟩
  · rw [List.length_drop, hvl, List.length_map]
    rw [List.length_cons] at hl
    omega
  · have := h2.2 (i + 1) (by simpa using hi) v (by rw [List.getElem?_drop, Nat.add_comm] at hv; exact hv)
    simpa using this
def kidsQ (B N : Nat) (ls : List (List Nd)) : TT := ⟨fun v => ∃ A c, v = .slice A N c, ⟨_, none, 0, rfl⟩, fun v x => ∃ A c vs, v = .slice A N c ∧ (A = none → c = 0) ∧ RdL x 1 one1 A vs ∧ OwnAll x B vs ls, fun _ _ _ ⟨A, c, vs, h1, h2, h3, h4⟩ hb => ⟨A, c, vs, h1, h2, h3.below hb, h4.below hb⟩⟩
theorem rows_lit (w : World) (a b : Value) : RdL (w.alloc (.cells #[a, b] 110)) 1 one1 (some ⟨w.heap.size, 0, none⟩) [a, b] := by
  intro k hk
  refine ⟨w.heap.size, 0, rfl, by simp, fun j u hu => ?_⟩
  have hj : j = 0 := by
    have := (List.getElem?_eq_some_iff.1 hu).1
    simp [one1] at this
    exact this
  subst hj
  rw [cell_of_row _ _ _ _ _ _ (heap_alloc_new w _)]
  simp only [one1, List.getElem?_cons_zero, Option.some.injEq] at hu
  rw [← hu]
  simp at hk
  rcases (show k = 0 ∨ k = 1 by omega) with rfl | rfl <;> rfl

set_option maxRecDepth 100000 in
set_option maxHeartbeats 8000000 in
theorem copened_any (P : Tr → Prop) (hP : Opens P) (B : Nat) : ∀ (n : Nat) (A : Option Addr) (m c : Nat) (ts : List Tr) (w : World), B ≤ w.heap.size → sizeL ts ≤ n → n ≤ 1000000 → ts ≠ [] → (∀ t ∈ ts, P t) → RowO w B A m c ts →
    Calls Tryd.prog 145 #[.slice A m c] w (RowTRet B (opn n ts) w) := by
  intro n
  induction n with
  | zero =>
    intro A m c ts w _ h _ hne _ _
    exfalso
    have := sizeL_len ts
    have h2 := List.length_pos_iff.2 hne
    omega
  | succ n ih =>
  intro A m c ts w hB hsz hn hne hp hrow
  obtain ⟨i0, hi, hz0, hz1, hz2⟩ := info_parts infoNodes
  obtain ⟨u1, u2, u3, u4⟩ := unj_spec hP (sizeL ts) ts (Nat.le_refl _) hne hp
  have hdef : opn (n + 1) ts = if headJ (fullF 0 (unj (sizeL ts) ts)) then opn n (fullF 0 (unj (sizeL ts) ts)) else fullF 0 (unj (sizeL ts) ts) := rfl
  obtain ⟨U, hU⟩ : ∃ U, U = unj (sizeL ts) ts := ⟨_, rfl⟩
  rw [← hU] at u1 u2 u3 u4 hdef
  have HDEF := Lib.hid hdef
  have HU1 := Lib.hid u1
  have HU2 := Lib.hid u2
  have HU3 := Lib.hid u3
  have HU4 := Lib.hid u4
  have HIH := Lib.hid ih
  have HPO := Lib.hid hP
  have hs0 : sizeL ts ≤ 1000001 := by omega
  have HN := Lib.hid (And.intro hsz hn)
  have HROW := Lib.hid hrow
  obtain ⟨N0, hN0⟩ : ∃ N0, N0 = sizeL ts := ⟨_, rfl⟩
  have HSTART := Lib.hid (show sizeL ts ≤ N0 ∧ unj N0 ts = U ∧ ts ≠ [] ∧ (∀ t ∈ ts, P t) from ⟨by rw [hN0]; exact Nat.le_refl _, by rw [hN0]; exact hU.symm, hne, hp⟩)
  rw [← hN0] at hs0
  have HN0 := Lib.hid hN0
  clear hdef u1 u2 u3 u4 ih hP hrow hne hp hU hsz hn hN0
  go_enter Tryd.func145, Tryd.ntmps145
  go_wp2_with fail
  go_loopg [0] N0 (fun g v wr => ∃ (A : Option Addr) (m c : Nat) (ks : List Tr), v = .slice A m c ∧ g ≤ N0 ∧ Hid (RowO wr B A m c ks) ∧ Hid (sizeL ks ≤ g ∧ unj g ks = U ∧ ks ≠ [] ∧ (∀ t ∈ ks, P t)) ∧ Below w.heap.size w wr)
  case atStart => exact ⟨A, m, c, ts, rfl, by rw [HN0.out]; exact Nat.le_refl _, HROW, HSTART, Below.refl _ _⟩
  case round =>
    obtain ⟨A, m, c, ks, rfl, hg, HR, HK, hb⟩ := hrel
    obtain ⟨k1, k2, k3, k4⟩ := HK.out
    obtain ⟨t, ks', rfl⟩ : ∃ t ks', ks = t :: ks' := by cases ks with | nil => exact absurd rfl k3 | cons t ks' => exact ⟨t, ks', rfl⟩
    obtain ⟨b, o, A0, n0, c0, rfl, -, cc0, own0⟩ := HR.out.at_ (k := 0) (by simp)
    simp only [List.getElem_cons_zero, Nat.add_zero] at cc0 own0
    obtain ⟨b0, o0, rfl, h00, -, -, -, e0, -, -, -, -⟩ := head_cells own0.rd
    have hm1 : 0 < m := by have := HR.out.len; rw [List.length_cons] at this; omega
    have hmc := HR.out.cap
    have hcm := HR.out.max
    unfold maxLen at hcm
    have hml := HR.out.len
    rw [List.length_cons] at hml
    have hkl := sizeL_len (t :: ks')
    rw [List.length_cons] at hkl
    have HOW := Lib.hid own0
    by_cases hj : t.kind = 4
    · obtain ⟨g', rfl⟩ : ∃ g', gk = g' + 1 := ⟨gk - 1, by have := sizeL_cons t ks'; have := flat_pos t; omega⟩
      have hst := unj_step (n := g') (us := ks') hj
      rw [k2] at hst
      have hsk := sizeL_kids t
      have hcs := sizeL_cons t ks'
      have hnx : sizeL (t.kids ++ ks') ≤ g' ∧ unj g' (t.kids ++ ks') = U ∧ t.kids ++ ks' ≠ [] ∧ (∀ u ∈ t.kids ++ ks', P u) := by
        refine ⟨by rw [sizeL_append]; omega, hst.symm, fun he => HPO.out.some_ t (k4 t (List.mem_cons_self ..)) hj (List.append_eq_nil_iff.1 he).1, fun u hu => ?_⟩
        rcases List.mem_append.1 hu with hu | hu
        · exact HPO.out.kids t (k4 t (List.mem_cons_self ..)) (.inl hj) u hu
        · exact k4 u (List.mem_cons_of_mem _ hu)
      have HNX := Lib.hid hnx
      have hkk := sizeL_len t.kids
      obtain ⟨m', rfl⟩ : ∃ m', m = m' + 1 := ⟨m - 1, by omega⟩
      have HT := Lib.hid (fun W (hW : Below wr.heap.size wr W) => RowO.tail (HR.out.below hW))
      have hm'l : m' = ks'.length := by omega
      have HML := Lib.hid hm'l
      have KC := Lib.hid (fun W (hW : Below wr.heap.size wr W) => show Calls Tryd.prog 64 #[.slice (some ⟨b0, o0, none⟩) n0 c0] W (KidsRet (t.kids.map flat) W) by rw [← kidsL_tree]; exact kids_any _ _ W (HOW.out.below hW).rd (by omega))
      rw [hj] at e0
      obtain ⟨q, hq⟩ : ∃ q, q = t.kids.length := ⟨_, rfl⟩
      have HQ := Lib.hid hq
      have hq6 : q ≤ 1000000 := by omega
      have hm6 : m' ≤ 1000000 := by omega
      clear hst hsk hcs hnx hkk k1 k2 k3 k4 hkl hml hm'l hq hj own0 hm1
      rcases Nat.lt_or_ge 1 c with hc1 | hc1
      · have hcn : ¬ c = 1 := by omega
        replace HT := Lib.hid (fun W hW => HT.out W hW)
        go_upto_region 2 with (fail)
        apply wp_region_relA 6 [eqT _, eqT _, eqT _, kidsQ wr.heap.size q (t.kids.map flat), eqT _, eqT _] (by kernel_rfl) (by kernel_rfl) (by kernel_rfl) rfl
        focus
          refine ⟨?_, ?_⟩
          focus
            unfold opGoal
            rw [if_pos (by kernel_rfl)]
            intro x hb hd K hk
            clear hd
            go_wp2_with fail
            exact hk _ _ rfl trivial (Below.refl _ _)
          rintro _ rfl
          simp only [Act.put, List.setIfInBounds_toArray, List.set_cons_succ, List.set_cons_zero]
          refine ⟨?_, ?_⟩
          focus
            unfold opGoal
            rw [if_pos (by kernel_rfl)]
            intro x hb hd K hk
            clear hd
            go_wp2_with fail
            exact hk _ _ rfl trivial (Below.refl _ _)
          rintro _ rfl
          simp only [Act.put, List.setIfInBounds_toArray, List.set_cons_succ, List.set_cons_zero]
          refine ⟨?_, ?_⟩
          focus
            unfold opGoal
            rw [if_pos (by kernel_rfl)]
            intro x hb hd K hk
            clear hd
            have l0 := cell_keep hb cc0
            go_wp2_with fail
            exact hk _ _ rfl trivial (Below.refl _ _)
          rintro _ rfl
          simp only [Act.put, List.setIfInBounds_toArray, List.set_cons_succ, List.set_cons_zero]
          refine ⟨?_, ?_⟩
          focus
            unfold opGoal
            rw [if_pos (by kernel_rfl)]
            intro x hb hd K hk
            clear hd
            have hsz := hb.size
            have HC := Lib.hid (KC.out x hb)
            go_wp2_with fail
            refine HC.out.mono ?_
            rintro e x' ⟨A1, c1, vs, rfl, ho, ha, hb'⟩
            obtain ⟨r1, r2, -⟩ := rd_one ho ha.1.symm
            rw [List.length_map, ← HQ.out] at ho ⊢
            exact hk _ _ ⟨_, _, rfl⟩ ⟨A1, c1, vs, rfl, r2, r1, ha.mono hsz⟩ hb'
          rintro _ ⟨A1, c1, rfl⟩
          simp only [Act.put, List.setIfInBounds_toArray, List.set_cons_succ, List.set_cons_zero]
          refine ⟨?_, ?_⟩
          focus
            unfold opGoal
            rw [if_pos (by kernel_rfl)]
            intro x hb hd K hk
            clear hd
            go_wp2_with fail
            exact hk _ _ rfl trivial (Below.refl _ _)
          rintro _ rfl
          simp only [Act.put, List.setIfInBounds_toArray, List.set_cons_succ, List.set_cons_zero]
          refine ⟨?_, ?_⟩
          focus
            unfold opGoal
            rw [if_pos (by kernel_rfl)]
            intro x hb hd K hk
            clear hd
            go_wp2_with fail
            exact hk _ _ rfl trivial (Below.refl _ _)
          rintro _ rfl
          simp only [Act.put, List.setIfInBounds_toArray, List.set_cons_succ, List.set_cons_zero]
          intro x hbx hf
          simp only [List.drop_succ_cons, List.drop_zero]
          have hk3 := hf 3 (kidsQ wr.heap.size q (t.kids.map flat)) (.slice A1 q c1) (by kernel_rfl) (by kernel_rfl)
          obtain ⟨_, _, vs1, he1, z1, r1, a1⟩ := hk3
          injection he1 with he1 _ he2
          subst he1 he2
          obtain ⟨vs2, r2, a2, l2⟩ := HT.out x hbx
          have hbw := hb.trans (hbx.mono hb.size)
          obtain ⟨X1, hX1⟩ : ∃ X1, X1 = x.alloc (.cells #[.slice A1 q c1, .slice (some ⟨b, o + 1, none⟩) m' (c - 1)] 110) := ⟨_, rfl⟩
          have hbX : Below x.heap.size x X1 := by rw [hX1]; exact (Below.refl _ _).alloc (Nat.le_refl _) _
          have hv1 : q = vs1.length := by rw [a1.1, List.length_map]; exact HQ.out
          have CC := Lib.hid (cconcat_any (some ⟨x.heap.size, 0, none⟩) A1 (some ⟨b, o + 1, none⟩) 2 c1 (c - 1) q m' vs1 vs2 X1 (by rw [hX1]; exact rows_lit x _ _) (r1.below hbX) (r2.below hbX) hv1 l2.symm z1 (fun h => by cases h) a1.cells a2.cells hq6 hm6)
          have HA := Lib.hid (show OwnAll X1 B (vs1 ++ vs2) ((t.kids ++ ks').map flat) by
            rw [List.map_append]
            exact ((a1.mono (Nat.le_trans hB hb.size)).below hbX).append (a2.below hbX))
          have HX1 := Lib.hid hX1
          have HXB := Lib.hid (hbw.trans (hbX.mono hbw.size))
          have hl12 : q + m' = (t.kids ++ ks').length := by rw [List.length_append, ← HQ.out, ← HML.out]
          have HL12 := Lib.hid hl12
          clear hf r1 a1 r2 a2 hbX hX1 hv1 l2 hl12 z1 KC HT e0 cc0 hbx hbw hb
          go_wp2_with fail
          rw [← HX1.out]
          refine CC.out.mono ?_
          rintro e x2 ⟨A5, c5, rfl, ho5, hb5⟩
          have HR5 := Lib.hid (RowO.of_own ho5 (HA.out.below hb5) HL12.out)
          have hbx5 := HXB.out.trans (hb5.mono HXB.out.size)
          clear ho5 hb5 CC HA
          go_wp2_with fail
          go_roundg g'
          case measure => omega
          case rel => exact ⟨A5, q + m', c5, t.kids ++ ks', rfl, by omega, HR5, HNX, hbx5⟩
      · obtain rfl : c = 1 := by omega
        obtain rfl : m' = 0 := by omega
        replace HT := Lib.hid (show ∀ W, Below wr.heap.size wr W → ∃ vs, RdL W 1 one1 (some ⟨b, o, none⟩) vs ∧ OwnAll W B vs (ks'.map flat) ∧ vs.length = 0 from fun W hW => by
          obtain ⟨vs, g1, g2, g3⟩ := HT.out W hW
          have : vs = [] := List.eq_nil_of_length_eq_zero g3
          subst this
          exact ⟨[], RdL.nil _ _ _ _, g2, rfl⟩)
        go_upto_region 2 with (fail)
        apply wp_region_relA 6 [eqT _, eqT _, eqT _, kidsQ wr.heap.size q (t.kids.map flat), eqT _, eqT _] (by kernel_rfl) (by kernel_rfl) (by kernel_rfl) rfl
        focus
          refine ⟨?_, ?_⟩
          focus
            unfold opGoal
            rw [if_pos (by kernel_rfl)]
            intro x hb hd K hk
            clear hd
            go_wp2_with fail
            exact hk _ _ rfl trivial (Below.refl _ _)
          rintro _ rfl
          simp only [Act.put, List.setIfInBounds_toArray, List.set_cons_succ, List.set_cons_zero]
          refine ⟨?_, ?_⟩
          focus
            unfold opGoal
            rw [if_pos (by kernel_rfl)]
            intro x hb hd K hk
            clear hd
            go_wp2_with fail
            exact hk _ _ rfl trivial (Below.refl _ _)
          rintro _ rfl
          simp only [Act.put, List.setIfInBounds_toArray, List.set_cons_succ, List.set_cons_zero]
          refine ⟨?_, ?_⟩
          focus
            unfold opGoal
            rw [if_pos (by kernel_rfl)]
            intro x hb hd K hk
            clear hd
            have l0 := cell_keep hb cc0
            go_wp2_with fail
            exact hk _ _ rfl trivial (Below.refl _ _)
          rintro _ rfl
          simp only [Act.put, List.setIfInBounds_toArray, List.set_cons_succ, List.set_cons_zero]
          refine ⟨?_, ?_⟩
          focus
            unfold opGoal
            rw [if_pos (by kernel_rfl)]
            intro x hb hd K hk
            clear hd
            have hsz := hb.size
            have HC := Lib.hid (KC.out x hb)
            go_wp2_with fail
            refine HC.out.mono ?_
            rintro e x' ⟨A1, c1, vs, rfl, ho, ha, hb'⟩
            obtain ⟨r1, r2, -⟩ := rd_one ho ha.1.symm
            rw [List.length_map, ← HQ.out] at ho ⊢
            exact hk _ _ ⟨_, _, rfl⟩ ⟨A1, c1, vs, rfl, r2, r1, ha.mono hsz⟩ hb'
          rintro _ ⟨A1, c1, rfl⟩
          simp only [Act.put, List.setIfInBounds_toArray, List.set_cons_succ, List.set_cons_zero]
          refine ⟨?_, ?_⟩
          focus
            unfold opGoal
            rw [if_pos (by kernel_rfl)]
            intro x hb hd K hk
            clear hd
            go_wp2_with fail
            exact hk _ _ rfl trivial (Below.refl _ _)
          rintro _ rfl
          simp only [Act.put, List.setIfInBounds_toArray, List.set_cons_succ, List.set_cons_zero]
          refine ⟨?_, ?_⟩
          focus
            unfold opGoal
            rw [if_pos (by kernel_rfl)]
            intro x hb hd K hk
            clear hd
            go_wp2_with fail
            exact hk _ _ rfl trivial (Below.refl _ _)
          rintro _ rfl
          simp only [Act.put, List.setIfInBounds_toArray, List.set_cons_succ, List.set_cons_zero]
          intro x hbx hf
          simp only [List.drop_succ_cons, List.drop_zero]
          have hk3 := hf 3 (kidsQ wr.heap.size q (t.kids.map flat)) (.slice A1 q c1) (by kernel_rfl) (by kernel_rfl)
          obtain ⟨_, _, vs1, he1, z1, r1, a1⟩ := hk3
          injection he1 with he1 _ he2
          subst he1 he2
          obtain ⟨vs2, r2, a2, l2⟩ := HT.out x hbx
          have hbw := hb.trans (hbx.mono hb.size)
          obtain ⟨X1, hX1⟩ : ∃ X1, X1 = x.alloc (.cells #[.slice A1 q c1, .slice (some ⟨b, o, none⟩) 0 0] 110) := ⟨_, rfl⟩
          have hbX : Below x.heap.size x X1 := by rw [hX1]; exact (Below.refl _ _).alloc (Nat.le_refl _) _
          have hv1 : q = vs1.length := by rw [a1.1, List.length_map]; exact HQ.out
          have CC := Lib.hid (cconcat_any (some ⟨x.heap.size, 0, none⟩) A1 (some ⟨b, o, none⟩) 2 c1 0 q 0 vs1 vs2 X1 (by rw [hX1]; exact rows_lit x _ _) (r1.below hbX) (r2.below hbX) hv1 l2.symm z1 (fun h => by cases h) a1.cells a2.cells hq6 hm6)
          have HA := Lib.hid (show OwnAll X1 B (vs1 ++ vs2) ((t.kids ++ ks').map flat) by
            rw [List.map_append]
            exact ((a1.mono (Nat.le_trans hB hb.size)).below hbX).append (a2.below hbX))
          have HX1 := Lib.hid hX1
          have HXB := Lib.hid (hbw.trans (hbX.mono hbw.size))
          have hl12 : q + 0 = (t.kids ++ ks').length := by rw [List.length_append, ← HQ.out, ← HML.out]
          have HL12 := Lib.hid hl12
          clear hf r1 a1 r2 a2 hbX hX1 hv1 l2 hl12 z1 KC HT e0 cc0 hbx hbw hb
          go_wp2_with fail
          rw [← HX1.out]
          refine CC.out.mono ?_
          rintro e x2 ⟨A5, c5, rfl, ho5, hb5⟩
          have HR5 := Lib.hid (RowO.of_own ho5 (HA.out.below hb5) HL12.out)
          have hbx5 := HXB.out.trans (hb5.mono HXB.out.size)
          clear ho5 hb5 CC HA
          go_wp2_with fail
          go_roundg g'
          case measure => omega
          case rel => exact ⟨A5, q + 0, c5, t.kids ++ ks', rfl, by omega, HR5, HNX, hbx5⟩
    · have hjf : (t.kind == 4) = false := by rw [beq_eq_false_iff_ne]; exact hj
      have hstop : t :: ks' = U := by rw [← k2]; exact (unj_stop (by simp [headJ, hjf])).symm
      have HRU := Lib.hid (show RowO wr B (some ⟨b, o, none⟩) m c U by rw [← hstop]; exact HR.out)
      have hmU : m = U.length := by rw [← hstop, List.length_cons]; exact hml
      have HMU := Lib.hid hmU
      have hm6 : m ≤ 2000000 := by omega
      clear k1 k2 k3 k4 HK hkl HOW own0 HR hstop hmU hml
      go_upto_region 3 with (fail)
      clear e0 cc0 hjf hj h00 hm1 hmc hcm
      go_wp2_with fail
      go_loopw [3, 23] (fun v i w2 => ∃ (k q : Nat) (A' : Option Addr) (c' : Nat) (us : List Value) (out : List Tr), k ≤ m ∧ i = .int .i64 k ∧ v = .slice A' q c' ∧ q ≤ k ∧ Hid (q = out.length) ∧
          w2.ownsRow wr.heap.size 22 1 (.slice A' q c') q us ∧ OwnAll w2 B us (out.map flat) ∧ Hid (out ++ fullF q (U.drop k) = fullF 0 U) ∧ Below wr.heap.size wr w2) (fun _ i _ => m - (intOf i).toNat)
      case atStart => exact ⟨0, 0, none, 0, [], [], Nat.zero_le _, rfl, rfl, Nat.le_refl _, rfl, World.ownsRow_nil _ _ _ _, OwnAll.nil _ _, Lib.hid (by simp), Below.refl _ _⟩
      case round =>
        obtain ⟨k, q, A', c', us, out, hk, rfl, rfl, hqk, HQ, hown, hall, HO, hb2⟩ := hrel
        by_cases hlt : k < m
        · have hkU : k < U.length := by rw [← HMU.out]; exact hlt
          obtain ⟨b1, o1, A1, n1, c1, he1, -, cc1, own1⟩ := (HRU.out.below hb2).at_ hkU
          simp only [Option.some.injEq, Addr.mk.injEq, and_true] at he1
          obtain ⟨he1, he2⟩ := he1
          subst he1 he2
          have hdr := List.drop_eq_getElem_cons hkU
          have hrl : (U.drop (k + 1)).length = m - k - 1 := by rw [List.length_drop, ← HMU.out]; omega
          obtain ⟨x, hx⟩ : ∃ x, x = U[k] := ⟨_, rfl⟩
          rw [← hx] at own1 hdr
          obtain ⟨b3, o3, rfl, h03, -, -, -, -, -, -, -, e4⟩ := head_cells own1.rd
          have LC := Lib.hid (clit_v _ n1 c1 x _ own1.rd)
          have HL1 := Lib.hid (OwnAll.one own1.own')
          have hfs : fullF q (U.drop k) = if emptyB x && decide (2 ≤ q + (m - k - 1)) then fullF q (U.drop (k + 1)) else x :: fullF (q + 1) (U.drop (k + 1)) := by rw [hdr, fullF, hrl]
          have HFS := Lib.hid hfs
          have hem : emptyB x = (isLit x && x.str.isEmpty) := rfl
          obtain ⟨l, hl⟩ : ∃ l, isLit x = l := ⟨_, rfl⟩
          rw [hl] at LC hem
          obtain ⟨r, hr⟩ : ∃ r, m = k + r + 1 := ⟨m - k - 1, by omega⟩
          have hr2 : m - k - 1 = r := by omega
          rw [hr2] at HFS
          have HRR := Lib.hid hr
          clear hx hdr hrl hkU hfs own1 hr2 hr
          cases l
          · rw [hem] at HFS
            go_wp2_with fail
            refine LC.out.mono ?_
            rintro e w3 ⟨rfl, rfl⟩
            go_wp2_with (at_builtin; refine wpList_push rfl _ _ _ rfl Tryd.underlying110 hi hz0 hz1 hz2 rfl (by decide) hown rfl rfl rfl (by simp [Value.oneCell']) (by omega) (by decide) hb2.size ?_; intro A4 c4 w4 hown4 hb4 hoo4)
            go_roundw
            case rel =>
              refine ⟨k + 1, q + 1, A4, c4, us ++ [.slice (some ⟨b3, o3, none⟩) n1 c1], out ++ [x], by omega, by go_num, rfl, by omega, Lib.hid (by rw [List.length_append, ← HQ.out]; rfl), by simpa using hown4, ?_, Lib.hid ?_, hb2.trans hb4⟩
              · rw [List.map_append]
                exact (hall.others hoo4 (by decide)).append (HL1.out.others hoo4 (by decide))
              · rw [← HO.out, HFS.out]
                simp
            case measure => simp [intOf]; omega
          · obtain ⟨s, hs⟩ : ∃ s, x.str = s := ⟨_, rfl⟩
            rw [hs] at hem e4
            clear hs hl
            cases s with
            | nil =>
              by_cases h2 : 2 ≤ q + r
              · have HF2 := Lib.hid (show fullF q (U.drop k) = fullF q (U.drop (k + 1)) by rw [HFS.out, hem, decide_eq_true h2]; rfl)
                have d2 : decide ((2 : Int) ≤ (q : Int) + (m : Int) - (k : Int) - 1) = true := decide_eq_true (by have := HRR.out; omega)
                clear HFS hem h2
                go_wp2_with fail
                refine LC.out.mono ?_
                rintro e w3 ⟨rfl, rfl⟩
                go_wp2_with fail
                go_roundw
                case rel => exact ⟨k + 1, q, A', c', us, out, by omega, by go_num, rfl, by omega, HQ, hown, hall, Lib.hid (by rw [← HO.out, HF2.out]), hb2⟩
                case measure => simp [intOf]; omega
              · have HF2 := Lib.hid (show fullF q (U.drop k) = x :: fullF (q + 1) (U.drop (k + 1)) by rw [HFS.out, hem, decide_eq_false h2]; rfl)
                have d2 : decide ((2 : Int) ≤ (q : Int) + (m : Int) - (k : Int) - 1) = false := decide_eq_false (by have := HRR.out; omega)
                clear HFS hem h2
                have HFS := HF2
                go_wp2_with fail
                refine LC.out.mono ?_
                rintro e w3 ⟨rfl, rfl⟩
                go_wp2_with (at_builtin; refine wpList_push rfl _ _ _ rfl Tryd.underlying110 hi hz0 hz1 hz2 rfl (by decide) hown rfl rfl rfl (by simp [Value.oneCell']) (by omega) (by decide) hb2.size ?_; intro A4 c4 w4 hown4 hb4 hoo4)
                go_roundw
                case rel =>
                  refine ⟨k + 1, q + 1, A4, c4, us ++ [.slice (some ⟨b3, o3, none⟩) n1 c1], out ++ [x], by omega, by go_num, rfl, by omega, Lib.hid (by rw [List.length_append, ← HQ.out]; rfl), by simpa using hown4, ?_, Lib.hid ?_, hb2.trans hb4⟩
                  · rw [List.map_append]
                    exact (hall.others hoo4 (by decide)).append (HL1.out.others hoo4 (by decide))
                  · rw [← HO.out, HFS.out]
                    simp
                case measure => simp [intOf]; omega
            | cons a s =>
              have HF2 := Lib.hid (show fullF q (U.drop k) = x :: fullF (q + 1) (U.drop (k + 1)) by rw [HFS.out, hem]; rfl)
              clear HFS hem
              have HFS := HF2
              go_wp2_with fail
              refine LC.out.mono ?_
              rintro e w3 ⟨rfl, rfl⟩
              go_wp2_with (at_builtin; refine wpList_push rfl _ _ _ rfl Tryd.underlying110 hi hz0 hz1 hz2 rfl (by decide) hown rfl rfl rfl (by simp [Value.oneCell']) (by omega) (by decide) hb2.size ?_; intro A4 c4 w4 hown4 hb4 hoo4)
              go_roundw
              case rel =>
                refine ⟨k + 1, q + 1, A4, c4, us ++ [.slice (some ⟨b3, o3, none⟩) n1 c1], out ++ [x], by omega, by go_num, rfl, by omega, Lib.hid (by rw [List.length_append, ← HQ.out]; rfl), by simpa using hown4, ?_, Lib.hid ?_, hb2.trans hb4⟩
                · rw [List.map_append]
                  exact (hall.others hoo4 (by decide)).append (HL1.out.others hoo4 (by decide))
                · rw [← HO.out, HFS.out]
                  simp
              case measure => simp [intOf]; omega
        · obtain rfl : k = m := by omega
          have hou : out = fullF 0 U := by
            have h := HO.out
            rw [List.drop_of_length_le (by rw [← HMU.out]; exact Nat.le_refl _)] at h
            simpa [fullF] using h
          rw [← hou] at HDEF
          have hone := full_ne 0 U (by omega) HU2.out
          have hfsz := full_size 0 U
          have hmem := full_mem 0 U
          rw [← hou] at hone hfsz hmem
          have HRO := Lib.hid (RowO.of_own hown hall HQ.out)
          obtain ⟨t0, out', rfl⟩ : ∃ t0 out', out = t0 :: out' := by cases out with | nil => exact absurd rfl hone | cons t0 out' => exact ⟨t0, out', rfl⟩
          obtain ⟨b4, o4, A4, n4, c4, rfl, -, cc4, own4⟩ := HRO.out.at_ (k := 0) (by simp)
          simp only [List.getElem_cons_zero, Nat.add_zero] at cc4 own4
          obtain ⟨b5, o5, rfl, h05, -, -, -, e5, -, -, -, -⟩ := head_cells own4.rd
          have hq1 : 0 < q := by have := HQ.out; rw [List.length_cons] at this; omega
          have hqc := HRO.out.cap
          have hcm := HRO.out.max
          unfold maxLen at hcm
          have hbw := hb.trans (hb2.mono hb.size)
          by_cases hj : t0.kind = 4
          · have hlt : sizeL (t0 :: out') ≤ n := by
              rcases hfsz with h | h
              · have h1 := HU1.out
                rw [← h] at h1
                simp [headJ, hj] at h1
              · have := HU4.out; have := HN.out; omega
            have IC := Lib.hid (HIH.out _ q c' (t0 :: out') _ (Nat.le_trans hB hbw.size) hlt (by have := HN.out; omega) (by simp) (fun u hu => HU3.out u (hmem u hu)) HRO.out)
            have HD2 := Lib.hid (show opn (n + 1) ts = opn n (t0 :: out') by rw [HDEF.out, if_pos (by simp [headJ, hj])])
            rw [hj] at e5
            clear hown hall hou hone hfsz hmem own4 hlt hj
            go_wp2_with fail
            refine IC.out.mono ?_
            rintro e w6 ⟨A6, m6, c6, rfl, hr6, hb6⟩
            have HR6 := Lib.hid hr6
            have hbx := hbw.trans (hb6.mono hbw.size)
            clear hr6
            go_wp2_with fail
            go_ret
            exact ⟨A6, m6, c6, rfl, by rw [HD2.out]; exact HR6.out, hbx⟩
          · have hjf : (t0.kind == 4) = false := by rw [beq_eq_false_iff_ne]; exact hj
            have HD2 := Lib.hid (show opn (n + 1) ts = t0 :: out' by rw [HDEF.out, if_neg (by simp [headJ, hjf])])
            clear hown hall hou hone hfsz hmem own4
            go_wp2_with fail
            go_ret
            exact ⟨_, q, c', rfl, by rw [HD2.out]; exact HRO.out, hbw⟩
end Go.Proofs.YtpogngdddendiaaDoor
