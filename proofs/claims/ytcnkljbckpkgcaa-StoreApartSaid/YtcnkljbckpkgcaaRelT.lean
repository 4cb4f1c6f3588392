/- A region that draws its order and ends in operations that wait for all others (an append, a store): one walk in the order of the text ahead of these, and a plain walk over these. No condition. -/
import Derived.Test.YtcnkljbckpkgcaaRel
import Derived.StillTail
set_option linter.unusedVariables false
set_option linter.unusedSimpArgs false
namespace Go.Proofs.Ytcnkljbckpkgcaa
open Go.RowKit

section
variable {R : World → World → Prop} {P : Program} {ops : Array Oper} {w0 : World} {Tall : List (TTR R)} {Q : Act → World → Prop}
theorem relGo_head (hd : Distinct ops) {n : Nat} (hlen : Tall.length = n) : ∀ (l : List Oper) (Ts : List (TTR R)) (k : Nat) (vs : List Value) (a0 a : Act) (us : Nat → Value), k + l.length = n → (∀ j : Nat, j < l.length → l[j]? = ops[k + j]?) → (∀ j : Nat, Ts[j]? = Tall[k + j]?) → vs.length = k →
    (∀ i : Nat, i < k → vs[i]? = some (us i)) → FrameIs ops a0 a (fun i => i < k) us → (∀ (i : Nat) (T : TTR R), Tall[i]? = some T → T.pu (us i)) → RelGo P ops w0 Tall Q l Ts vs a →
    (∀ (j : Nat) (o : Oper) (T : TTR R), k ≤ j → j < n → ops[j]? = some o → Tall[j]? = some T → ∃ (vs' : List Value) (b : Act), (∀ i, i < j → vs'[i]? = some (us i)) ∧ FrameIs ops a0 b (fun i => i < j) us ∧ opGoal P ops w0 Tall T o vs' b) ∧
    ∃ (vs' : List Value) (b : Act), (∀ i, i < n → vs'[i]? = some (us i)) ∧ FrameIs ops a0 b (fun i => i < n) us ∧ ∀ x, R w0 x → (∀ (i : Nat) (T : TTR R) (v : Value), Tall[i]? = some T → vs'[i]? = some v → T.ho v x) → Q b x := by
  intro l
  induction l with
  | nil =>
    intro Ts k vs a0 a us hkn hl hT hk hvs hf hpu h
    have hkn' : k = n := by simpa using hkn
    subst hkn'
    exact ⟨fun j o T hj hjn => by omega, vs, a, hvs, hf, h⟩
  | cons o l ih =>
    intro Ts k vs a0 a us hkn hl hT hk hvs hf hpu h
    have ho : ops[k]? = some o := by simpa using (hl 0 (by simp)).symm
    cases Ts with
    | nil => exact h.elim
    | cons T Ts =>
      have hTk : Tall[k]? = some T := by simpa using (hT 0).symm
      obtain ⟨h1, h2⟩ := h
      have hrec := ih Ts (k + 1) (vs ++ [us k]) a0 (a.put o.dst (us k)) us (by simp at hkn; omega) (fun j hj => by have := hl (j + 1) (by simp; omega); simpa [Nat.add_assoc, Nat.add_comm 1 j] using this) (fun j => by have := hT (j + 1); simpa [Nat.add_assoc, Nat.add_comm 1 j] using this) (by simp [hk])
        (fun i hi => by
          by_cases hik : i < k
          · rw [List.getElem?_append_left (by omega)]; exact hvs i hik
          · have : i = k := by omega
            subst this
            rw [List.getElem?_append_right (by omega), hk]; simp)
        (by
          have := hf.put hd ho (vs' := us) (us k) rfl (fun _ _ _ => rfl)
          exact ⟨this.size, this.defers, fun i q d hq hS => this.done i q d hq (by have hS' : i < k + 1 := hS; show i < k ∨ i = k; omega), fun t ht => this.rest t (fun i q hq hdst hS => ht i q hq hdst (by have hS' : i < k ∨ i = k := hS; show i < k + 1; omega))⟩)
        hpu (h2 (us k) (hpu k T hTk))
      refine ⟨fun j o' T' hj hjn ho' hT' => ?_, hrec.2⟩
      by_cases hjk : j = k
      · subst hjk
        rw [ho] at ho'
        injection ho' with ho'
        subst ho'
        rw [hTk] at hT'
        injection hT' with hT'
        subst hT'
        exact ⟨vs, a, hvs, hf, h1⟩
      · exact hrec.1 j o' T' (by omega) hjn ho' hT'
end

def headListed (n m : Nat) : Array Bool := (List.replicate n true ++ List.replicate m false).toArray
/-- The operations from n on wait for all others, one behind the other. -/
def tailB (ops : Array Oper) (n : Nat) : Bool := decide (n < ops.size) && Region.sinkB .any ops n && Region.chainB .any ops n && Region.seqB .any ops (ops.size - n) n (headListed n (ops.size - n))

theorem wp_region_relT {R : World → World → Prop} (hrefl : ∀ x, R x x) (htrans : ∀ {x y z}, R x y → R y z → R x z) {P : Program} {id : Nat} {Q : Exit → Act → World → Prop} {a : Act} {w : World} {l : List Oper} (hdrew : R w { w with drawn := w.drawn + 1 }) (n : Nat) (Ts : List (TTR R)) (hm : P.follows .mixedOrders = true) (hB : relB l.toArray = true) (hT : tailB l.toArray n = true) (hlen : Ts.length = n)
    (h : RelGo P l.toArray w Ts (fun a' x => wpList P l.toArray Q (l.drop n) a' x) (l.take n) Ts [] a) : (Code.region id l.toArray true).wp P Q a w := by
  obtain ⟨hsel, hd, hedge, hlook⟩ := relB_spec hB
  simp only [tailB, Bool.and_eq_true, decide_eq_true_eq] at hT
  obtain ⟨⟨⟨hn, hsink⟩, hchain⟩, hseq⟩ := hT
  have htl : (l.take n).length = n := by simp at hn ⊢; omega
  have hdl : (l.drop n).length = l.toArray.size - n := by simp
  have hldrop : ∀ j, (l.drop n)[j]? = l.toArray[n + j]? := fun j => by simp
  generalize hops : l.toArray = ops at *
  have hl : ∀ j : Nat, j < (l.take n).length → (l.take n)[j]? = ops[0 + j]? := fun j hj => by
    rw [← hops]
    rw [htl] at hj
    simp [hj]
  have hpu0 : ∃ us : Nat → Value, ∀ (i : Nat) (T : TTR R), Ts[i]? = some T → T.pu (us i) := by
    refine ⟨fun i => match Ts[i]? with | some T => Classical.choose T.ne | none => undef, fun i T hT => ?_⟩
    simp only [hT]
    exact Classical.choose_spec T.ne
  obtain ⟨us0, hus0⟩ := hpu0
  refine wp_region_any hm ?_
  suffices H : ∀ (m : Nat) (listed : Array Bool) (a' : Act) (x : World) (us : Nat → Value), listed.size = ops.size → listed.toList.count false = m + (ops.size - n) → (∀ t : Nat, n ≤ t → t < ops.size → listed[t]? = some false) → R w x →
      FrameIs ops a a' (fun i => listed[i]? = some true) us → (∀ (i : Nat) (T : TTR R), Ts[i]? = some T → T.pu (us i)) → (∀ (i : Nat) (T : TTR R), Ts[i]? = some T → listed[i]? = some true → T.ho (us i) x) →
      (∀ (k : Nat) (q : Oper), ops[k]? = some q → listed[k]? = some true → ∀ e ∈ q.after, Region.binds .any e = true → listed[e.on]? = some true) → wpAny P .any ops Q (m + (ops.size - n)) listed a' x by
    have hs : n + (ops.size - n) = ops.size := by omega
    have H0 := H n (Array.replicate ops.size false) a { w with drawn := w.drawn + 1 } us0 (by simp) (by simp; omega) (fun t _ ht => by simp [ht]) hdrew (FrameIs.start fun i o hi => by
      have := (Array.getElem?_eq_some_iff.1 hi).1
      simp [this]) hus0 (fun i T _ hi => by simp [Array.getElem?_replicate] at hi) (fun k q _ hi => by simp [Array.getElem?_replicate] at hi)
    rw [hs] at H0
    exact H0
  intro m
  induction m with
  | zero =>
    intro listed a' x us hsz hcnt htail hbel hf hpu hho hcl
    have hall : ∀ i, i < n → listed[i]? = some true := by
      intro i hi
      have hsplit : listed.toList.count false = (listed.toList.take n).count false + (listed.toList.drop n).count false := by
        rw [← List.count_append, List.take_append_drop]
      have hdrop : (listed.toList.drop n).count false = ops.size - n := by
        rw [List.count_eq_length.2, List.length_drop, Array.length_toList, hsz]
        intro b hb
        obtain ⟨j, hj, rfl⟩ := List.mem_iff_getElem.1 hb
        have hj' : n + j < ops.size := by simp at hj; omega
        have := htail (n + j) (by omega) hj'
        rw [Array.getElem?_eq_getElem (by omega)] at this
        simp only [Option.some.injEq] at this
        rw [List.getElem_drop, Array.getElem_toList, this]
      have htake : (listed.toList.take n).count false = 0 := by omega
      have hi' : i < (listed.toList.take n).length := by simp; omega
      have hne : (listed.toList.take n)[i] ≠ false := fun e => by
        have hmem : false ∈ listed.toList.take n := by rw [← e]; exact List.getElem_mem _
        have := List.count_pos_iff.2 hmem
        omega
      have hv : listed[i]'(by omega) ≠ false := by simpa using hne
      rw [Array.getElem?_eq_getElem (by omega)]
      cases hb : listed[i]'(by omega) with
      | true => rfl
      | false => exact absurd hb hv
    have hlist : listed = headListed n (ops.size - n) := by
      apply Array.ext_getElem?
      intro i
      rcases Nat.lt_or_ge i n with hi | hi
      · rw [hall i hi]
        simp [headListed, List.getElem?_append, hi]
      · rcases Nat.lt_or_ge i ops.size with h2 | h2
        · rw [htail i hi h2]
          simp only [headListed, List.getElem?_toArray]
          rw [List.getElem?_append_right (by simpa using hi), List.length_replicate, List.getElem?_replicate]
          rw [if_pos (by omega)]
        · rw [Array.getElem?_eq_none (by omega), Array.getElem?_eq_none (by simp [headListed]; omega)]
    obtain ⟨_, vs', b, hvs, hfb, hq⟩ := relGo_head hd hlen (l.take n) Ts 0 [] a a us (by omega) hl (fun j => by simp) rfl (fun i hi => by omega) (FrameIs.start fun i o _ => Nat.not_lt_zero i) hpu h
    have hab : a' = b := by
      have ht : a'.tmps = b.tmps := by
        apply Array.ext_getElem?
        intro t
        refine hf.agree hd hfb t fun i o hi _ => ?_
        rcases Nat.lt_or_ge i n with h1 | h1
        · exact .inl ⟨hall i h1, h1, rfl⟩
        · refine .inr ⟨fun e => ?_, by omega⟩
          rw [htail i h1 (Array.getElem?_eq_some_iff.1 hi).1] at e
          cases e
      have hdf : a'.defers = b.defers := hf.defers.trans hfb.defers.symm
      cases a'; cases b
      simp only at ht hdf
      rw [ht, hdf]
    rw [hab, Nat.zero_add, ← hdl]
    refine wpAny_of_seq (l.drop n) n listed b x hldrop (by rw [hdl, hlist]; exact hseq) ?_
    refine hq x hbel fun i T v hT hv => ?_
    have hi : i < n := by rw [← hlen]; exact (List.getElem?_eq_some_iff.1 hT).1
    rw [hvs i hi] at hv
    injection hv with hv
    rw [← hv]
    exact hho i T hT (hall i hi)
  | succ m ih =>
    intro listed a' x us hsz hcnt htail hbel hf hpu hho hcl
    have hgetD : ∀ (i : Nat) (d : Bool), i < ops.size → listed.getD i d = listed[i]?.getD d := fun i d _ => Array.getD_eq_getD_getElem?
    have inv : HeadInv .any ops n listed := ⟨hsz, fun j oj hj hl e he hb => by
      have hjs := (Array.getElem?_eq_some_iff.1 hj).1
      have : listed[j]? = some true := by
        rw [Array.getD_eq_getD_getElem?, Array.getElem?_eq_getElem (by omega)] at hl
        rw [Array.getElem?_eq_getElem (by omega)]
        simpa using hl
      rw [Array.getD_eq_getD_getElem?, hcl j oj hj this e he hb]; rfl, fun t ht hts => by
      rw [Array.getD_eq_getD_getElem?, htail t ht hts]; rfl⟩
    have hexh : ∃ k, k < n ∧ listed[k]? = some false := by
      rcases Classical.em (∃ k, k < n ∧ listed[k]? = some false) with h1 | h1
      · exact h1
      · exfalso
        have hsplit : listed.toList.count false = (listed.toList.take n).count false + (listed.toList.drop n).count false := by
          rw [← List.count_append, List.take_append_drop]
        have hdrop : (listed.toList.drop n).count false ≤ ops.size - n := by
          have := List.count_le_length (a := false) (l := listed.toList.drop n)
          rw [List.length_drop, Array.length_toList, hsz] at this
          exact this
        have htake : (listed.toList.take n).count false = 0 := by
          rw [List.count_eq_zero]
          intro hmem
          obtain ⟨k, hk, hkv⟩ := List.mem_iff_getElem.1 hmem
          have hk' : k < n ∧ k < listed.size := by simp at hk; omega
          refine h1 ⟨k, hk'.1, ?_⟩
          rw [Array.getElem?_eq_getElem hk'.2]
          simpa using hkv
        omega
    obtain ⟨k0, hk0, hk0v⟩ := hexh
    have hnotail : ∀ t, n ≤ t → t ∉ Region.ready .any ops listed := tail_waits hsink hchain hn inv (n - k0) k0 rfl hk0 (by rw [Array.getD_eq_getD_getElem?, hk0v]; rfl)
    have hfuel : m + 1 + (ops.size - n) = (m + (ops.size - n)) + 1 := by omega
    rw [hfuel]
    refine ⟨fun hr => ?_, fun i hi => ?_⟩
    · exfalso
      obtain ⟨n1, ⟨hn1, hnl⟩, hmin⟩ := exists_least (p := fun k => k < n ∧ listed[k]? ≠ some true) ⟨k0, hk0, by rw [hk0v]; simp⟩
      obtain ⟨o, ho⟩ : ∃ o, ops[n1]? = some o := ⟨ops[n1]'(by omega), Array.getElem?_eq_getElem (by omega)⟩
      have hmr : n1 ∈ Region.ready .any ops listed := by
        refine mem_ready.2 ⟨?_, o, ho, fun e he hb => ?_⟩
        · rw [Array.getD_eq_getD_getElem?, Array.getElem?_eq_getElem (by omega)]
          rw [Array.getElem?_eq_getElem (by omega)] at hnl
          simpa using hnl
        · have hlt := hedge n1 o ho e he hb
          have : listed[e.on]? = some true := by
            rcases Classical.em (listed[e.on]? = some true) with h1 | h1
            · exact h1
            · have := hmin e.on ⟨by omega, h1⟩; omega
          rw [Array.getD_eq_getD_getElem?, this]; rfl
      rw [hr] at hmr
      cases hmr
    · have hin : i < n := by
        rcases Nat.lt_or_ge i n with h1 | h1
        · exact h1
        · exact absurd hi (hnotail i h1)
      obtain ⟨h0, o, ho, hall⟩ := mem_ready.1 hi
      have hil : listed[i]? = some false := by
        rw [Array.getD_eq_getD_getElem?, Array.getElem?_eq_getElem (by omega)] at h0
        rw [Array.getElem?_eq_getElem (by omega)]
        simpa using h0
      have hpred : ∀ e ∈ o.after, Region.binds .any e = true → listed[e.on]? = some true := fun e he hb => by
        have h1 := hall e he hb
        have hlt := hedge i o ho e he hb
        rw [Array.getD_eq_getD_getElem?, Array.getElem?_eq_getElem (by omega)] at h1
        rw [Array.getElem?_eq_getElem (by omega)]
        simpa using h1
      obtain ⟨T, hT⟩ : ∃ T, Ts[i]? = some T := ⟨Ts[i]'(by omega), List.getElem?_eq_getElem (by omega)⟩
      obtain ⟨vs', b, hvs, hfb, hop⟩ := (relGo_head hd hlen (l.take n) Ts 0 [] a a us (by omega) hl (fun j => by simp) rfl (fun i hi => by omega) (FrameIs.start fun i o _ => Nat.not_lt_zero i) hpu h).1 i o T (Nat.zero_le _) hin ho hT
      have hag := eval_agree (a := a') (b := b) (ops := ops) (fun cs b => hsel i o cs b ho) (fun t ht => by
        refine hf.agree hd hfb t fun k q hk hq => ?_
        by_cases hki : k = i
        · subst hki
          exact .inr ⟨(fun e => (by rw [hil] at e; cases e)), Nat.lt_irrefl _⟩
        · rcases hlook k i q o t hk ho hki hq ht with ⟨hlt, e, he, hb, hon⟩ | ⟨hlt, e, he, hb, hon⟩
          · exact .inl ⟨hon ▸ hpred e he hb, hlt, rfl⟩
          · exact .inr ⟨(fun hS => (by
              have := hcl k q hk hS e he hb
              rw [hon, hil] at this; cases this)), by omega⟩)
      have next : ∀ v x', T.pu v → T.ho v x' → R x x' → wpAny P .any ops Q (m + (ops.size - n)) (listed.setIfInBounds i true) (a'.put o.dst v) x' := by
        intro v x' hpv hhv hbx
        refine ih _ _ _ (fun k => if k = i then v else us k) (by simpa using hsz) ?_ ?_ (htrans hbel hbx) ?_ ?_ ?_ ?_
        · have hil' : listed.toList[i]'(by simp; omega) = false := by
            rw [Array.getElem?_eq_getElem (by omega)] at hil
            simpa using hil
          rw [Array.toList_setIfInBounds, List.count_set (by simp; omega), hil', hcnt]
          simp <;> omega
        · intro t ht hts
          rw [Array.getElem?_setIfInBounds_ne (by omega)]
          exact htail t ht hts
        · have := hf.put hd ho (vs' := fun k => if k = i then v else us k) v (by simp) (fun k _ hk => by simp [hk])
          refine ⟨this.size, this.defers, fun k q d hk hS => this.done k q d hk ?_, fun t ht => this.rest t fun k q hk hq hS => ht k q hk hq ?_⟩
          · by_cases hki : k = i
            · exact .inr hki
            · rw [Array.getElem?_setIfInBounds_ne (by omega)] at hS; exact .inl hS
          · rcases hS with hS | rfl
            · by_cases hki : k = i
              · subst hki; rw [hil] at hS; cases hS
              · rw [Array.getElem?_setIfInBounds_ne (by omega)]; exact hS
            · rw [Array.getElem?_setIfInBounds_self_of_lt (by omega)]
        · intro k T' hT'
          by_cases hki : k = i
          · subst hki
            rw [hT] at hT'; injection hT' with hT'; subst hT'
            simpa using hpv
          · simpa [hki] using hpu k T' hT'
        · intro k T' hT' hS
          by_cases hki : k = i
          · subst hki
            rw [hT] at hT'; injection hT' with hT'; subst hT'
            simpa using hhv
          · rw [Array.getElem?_setIfInBounds_ne (by omega)] at hS
            simp only [hki, if_false]
            exact T'.st _ _ _ (hho k T' hT' hS) hbx
        · intro k q hk hS e he hb
          by_cases hki : k = i
          · subst hki
            rw [ho] at hk; injection hk with hk; subst hk
            have hlt := hedge k o ho e he hb
            rw [Array.getElem?_setIfInBounds_ne (by omega)]
            exact hpred e he hb
          · rw [Array.getElem?_setIfInBounds_ne (by omega)] at hS
            have := hcl k q hk hS e he hb
            by_cases hei : e.on = i
            · rw [hei, hil] at this; cases this
            · rw [Array.getElem?_setIfInBounds_ne (by omega)]; exact this
      unfold wpOp
      simp only [ho]
      unfold opGoal at hop
      rw [hag.2]
      split
      · rename_i hw
        rw [if_pos hw] at hop
        refine .inl (upon_agree (hf.size.trans hfb.size.symm) (hf.defers.trans hfb.defers.symm) hag.1 (hop x hbel ?_) next)
        intro e he hb T' v hT' hv
        have hlt := hedge i o ho e (by simpa using he) hb
        rw [hvs e.on hlt] at hv
        injection hv with hv
        rw [← hv]
        exact hho e.on T' hT' (hpred e (by simpa using he) hb)
      · rename_i hw
        rw [if_neg hw] at hop
        exact next undef x hop.1 (hop.2 x) (hrefl _)

/-- .. where all that was there stands as it stood ahead of these. -/
theorem wp_region_relA {P : Program} {id : Nat} {Q : Exit → Act → World → Prop} {a : Act} {w : World} {l : List Oper} (n : Nat) (Ts : List TT) (hm : P.follows .mixedOrders = true) (hB : relB l.toArray = true) (hT : tailB l.toArray n = true) (hlen : Ts.length = n)
    (h : RelGo P l.toArray w Ts (fun a' x => wpList P l.toArray Q (l.drop n) a' x) (l.take n) Ts [] a) : (Code.region id l.toArray true).wp P Q a w :=
  wp_region_relT (R := BelR) (fun _ => Below.refl _ _) (fun h1 h2 => h1.trans (h2.mono h1.size)) ((Below.refl _ _).drew) n Ts hm hB hT hlen h
end Go.Proofs.Ytcnkljbckpkgcaa
