/- A region that draws its order, with one operation in it that waits for all ahead of it and for which all behind it wait (a call that changes memory, with two results): walks ahead, over it, behind. No condition. -/
import Derived.Test.YthmeonimianoeaaDoorGA
import Derived.Test.YthmeonimianoeaaDoorPh
set_option linter.unusedVariables false
set_option linter.unusedSimpArgs false
namespace Go.Proofs.YthmeonimianoeaaDoor
open Go.RowKit

theorem relAny_from {R : World → World → Prop} (hrefl : ∀ x, R x x) (htrans : ∀ {x y z}, R x y → R y z → R x z) {P : Program} {Q : Exit → Act → World → Prop} {a a1 : Act} {w : World} {ops : Array Oper} (hB : relB ops = true) (k0 : Nat) (l : List Oper) (Tall Ts : List (TTR R)) (vs1 : List Value) (us1 : Nat → Value) (hTlen : Tall.length = ops.size)
    (hl : ∀ j : Nat, l[j]? = ops[k0 + j]?) (hT1 : ∀ j : Nat, Ts[j]? = Tall[k0 + j]?) (hvl : vs1.length = k0) (hvs1 : ∀ i, i < k0 → vs1[i]? = some (us1 i)) (hpu1 : ∀ us : Nat → Value, (∀ (i : Nat) (T : TTR R), Tall[i]? = some T → T.pu (us i)) → ∀ i, i < k0 → us1 i = us i) (hf1 : ∀ us : Nat → Value, (∀ i, i < k0 → us i = us1 i) → FrameIs ops a a1 (fun i => i < k0) us)
    (h : RelGo P ops w Tall (fun a' x => Q .normal a' x) l Ts vs1 a1) : ∀ (fuel : Nat) (listed : Array Bool) (a' : Act) (x : World) (us : Nat → Value), listed.size = ops.size → listed.toList.count false = fuel → (∀ i, i < k0 → listed[i]? = some true) → R w x →
      FrameIs ops a a' (fun i => listed[i]? = some true) us → (∀ (i : Nat) (T : TTR R), Tall[i]? = some T → T.pu (us i)) → (∀ (i : Nat) (T : TTR R), Tall[i]? = some T → listed[i]? = some true → T.ho (us i) x) →
      (∀ (k : Nat) (q : Oper), ops[k]? = some q → listed[k]? = some true → ∀ e ∈ q.after, Region.binds .any e = true → listed[e.on]? = some true) → wpAny P .any ops Q fuel listed a' x := by
  obtain ⟨hsel, hd, hedge, hlook⟩ := relB_spec hB
  intro fuel
  induction fuel with
  | zero =>
    intro listed a' x us hsz hcnt hk0 hbel hf hpu hho hcl
    have hall : ∀ i, i < ops.size → listed[i]? = some true := by
      intro i hi
      have hi' : i < listed.toList.length := by simp; omega
      have hmem : listed.toList[i] ∈ listed.toList := List.getElem_mem _
      have hne : listed.toList[i] ≠ false := fun e => by
        rw [e] at hmem
        have := List.count_pos_iff.2 hmem
        omega
      have : listed.toList[i] = true := by simpa using hne
      rw [Array.getElem?_eq_getElem (by omega)]
      simpa using this
    refine ⟨?_, ?_⟩
    · rw [List.eq_nil_iff_forall_not_mem]
      intro j hj
      obtain ⟨h0, o, ho, _⟩ := mem_ready.1 hj
      have hj' := hall j (Array.getElem?_eq_some_iff.1 ho).1
      rw [Array.getD_eq_getD_getElem?, hj'] at h0
      cases h0
    · obtain ⟨_, vs', b, hvs, hfb, hq⟩ := relGo_at hd hTlen l Ts k0 vs1 a a1 us hl hT1 hvl (fun i hi => by rw [hvs1 i hi, hpu1 us hpu i hi]) (hf1 us fun i hi => (hpu1 us hpu i hi).symm) hpu h
      have hab : a' = b := frame_eq hd hf hfb fun i o hi => ⟨hall i (Array.getElem?_eq_some_iff.1 hi).1, (Array.getElem?_eq_some_iff.1 hi).1⟩
      rw [hab]
      refine hq x hbel fun i T v hT hv => ?_
      have hi : i < ops.size := by rw [← hTlen]; exact (List.getElem?_eq_some_iff.1 hT).1
      rw [hvs i hi] at hv
      injection hv with hv
      rw [← hv]
      exact hho i T hT (hall i hi)
  | succ fuel ih =>
    intro listed a' x us hsz hcnt hk0 hbel hf hpu hho hcl
    refine ⟨fun hr => ?_, fun i hi => ?_⟩
    · exfalso
      have hex : ∃ n, n < ops.size ∧ listed[n]? ≠ some true := by
        have hmem : false ∈ listed.toList := List.count_pos_iff.1 (by omega)
        obtain ⟨n, hn, hnv⟩ := List.mem_iff_getElem.1 hmem
        refine ⟨n, by simp at hn; omega, ?_⟩
        rw [Array.getElem?_eq_getElem (by simpa using hn)]
        simp at hnv
        simp [hnv]
      obtain ⟨n, ⟨hn, hnl⟩, hmin⟩ := exists_least hex
      have hon : ∃ o, ops[n]? = some o := ⟨ops[n], Array.getElem?_eq_getElem hn⟩
      obtain ⟨o, ho⟩ := hon
      have hmr : n ∈ Region.ready .any ops listed := by
        refine mem_ready.2 ⟨?_, o, ho, fun e he hb => ?_⟩
        · rw [Array.getD_eq_getD_getElem?, Array.getElem?_eq_getElem (by omega)] 
          rw [Array.getElem?_eq_getElem (by omega)] at hnl
          simpa using hnl
        · have hlt := hedge n o ho e he hb
          have : listed[e.on]? = some true := by
            rcases Classical.em (listed[e.on]? = some true) with h1 | h1
            · exact h1
            · have := hmin e.on ⟨by omega, h1⟩; omega
          rw [Array.getD_eq_getD_getElem?, this]; rfl
      rw [hr] at hmr
      cases hmr
    · obtain ⟨h0, o, ho, hall⟩ := mem_ready.1 hi
      have hin : i < ops.size := (Array.getElem?_eq_some_iff.1 ho).1
      have hil : listed[i]? = some false := by
        rw [Array.getD_eq_getD_getElem?, Array.getElem?_eq_getElem (by omega)] at h0
        rw [Array.getElem?_eq_getElem (by omega)]
        simpa using h0
      have hpred : ∀ e ∈ o.after, Region.binds .any e = true → listed[e.on]? = some true := fun e he hb => by
        have h1 := hall e he hb
        have hlt := hedge i o ho e he hb
        rw [Array.getD_eq_getD_getElem?, Array.getElem?_eq_getElem (by omega)] at h1
        rw [Array.getElem?_eq_getElem (by omega)]
        simpa using h1
      obtain ⟨T, hT⟩ : ∃ T, Tall[i]? = some T := ⟨Tall[i]'(by omega), List.getElem?_eq_getElem (by omega)⟩
      obtain ⟨vs', b, hvs, hfb, hop⟩ := (relGo_at hd hTlen l Ts k0 vs1 a a1 us hl hT1 hvl (fun i hi => by rw [hvs1 i hi, hpu1 us hpu i hi]) (hf1 us fun i hi => (hpu1 us hpu i hi).symm) hpu h).1 i o T (Nat.le_of_not_lt fun h1 => by rw [hk0 i h1] at hil; cases hil) ho hT
      have hag := eval_agree (a := a') (b := b) (ops := ops) (fun cs b => hsel i o cs b ho) (fun t ht => by
        refine hf.agree hd hfb t fun k q hk hq => ?_
        by_cases hki : k = i
        · subst hki
          exact .inr ⟨(fun e => (by rw [hil] at e; cases e)), Nat.lt_irrefl _⟩
        · rcases hlook k i q o t hk ho hki hq ht with ⟨hlt, e, he, hb, hon⟩ | ⟨hlt, e, he, hb, hon⟩
          · exact .inl ⟨hon ▸ hpred e he hb, hlt, rfl⟩
          · exact .inr ⟨(fun hS => (by
              have := hcl k q hk hS e he hb
              rw [hon, hil] at this; cases this)), by omega⟩)
      have next : ∀ v x', T.pu v → T.ho v x' → R x x' → wpAny P .any ops Q fuel (listed.setIfInBounds i true) (a'.put o.dst v) x' := by
        intro v x' hpv hhv hbx
        refine ih _ _ _ (fun k => if k = i then v else us k) (by simpa using hsz) ?_ ?_ (htrans hbel hbx) ?_ ?_ ?_ ?_
        · have hil' : listed.toList[i]'(by simp; omega) = false := by
            rw [Array.getElem?_eq_getElem (by omega)] at hil
            simpa using hil
          rw [Array.toList_setIfInBounds, List.count_set (by simp; omega), hil', hcnt]
          simp
        · intro k hk
          by_cases hki : k = i
          · subst hki; rw [Array.getElem?_setIfInBounds_self_of_lt (by omega)]
          · rw [Array.getElem?_setIfInBounds_ne (by omega)]; exact hk0 k hk
        · have := hf.put hd ho (vs' := fun k => if k = i then v else us k) v (by simp) (fun k _ hk => by simp [hk])
          refine ⟨this.size, this.defers, fun k q d hk hS => this.done k q d hk ?_, fun t ht => this.rest t fun k q hk hq hS => ht k q hk hq ?_⟩
          · by_cases hki : k = i
            · exact .inr hki
            · rw [Array.getElem?_setIfInBounds_ne (by omega)] at hS; exact .inl hS
          · rcases hS with hS | rfl
            · by_cases hki : k = i
              · subst hki; rw [hil] at hS; cases hS
              · rw [Array.getElem?_setIfInBounds_ne (by omega)]; exact hS
            · rw [Array.getElem?_setIfInBounds_self_of_lt (by omega)]
        · intro k T' hT'
          by_cases hki : k = i
          · subst hki
            rw [hT] at hT'; injection hT' with hT'; subst hT'
            simpa using hpv
          · simpa [hki] using hpu k T' hT'
        · intro k T' hT' hS
          by_cases hki : k = i
          · subst hki
            rw [hT] at hT'; injection hT' with hT'; subst hT'
            simpa using hhv
          · rw [Array.getElem?_setIfInBounds_ne (by omega)] at hS
            simp only [hki, if_false]
            exact T'.st _ _ _ (hho k T' hT' hS) hbx
        · intro k q hk hS e he hb
          by_cases hki : k = i
          · subst hki
            rw [ho] at hk; injection hk with hk; subst hk
            have hlt := hedge k o ho e he hb
            rw [Array.getElem?_setIfInBounds_ne (by omega)]
            exact hpred e he hb
          · rw [Array.getElem?_setIfInBounds_ne (by omega)] at hS
            have := hcl k q hk hS e he hb
            by_cases hei : e.on = i
            · rw [hei, hil] at this; cases this
            · rw [Array.getElem?_setIfInBounds_ne (by omega)]; exact this
      unfold wpOp
      simp only [ho]
      unfold opGoal at hop
      rw [hag.2]
      split
      · rename_i hw
        rw [if_pos hw] at hop
        refine .inl (upon_agree (hf.size.trans hfb.size.symm) (hf.defers.trans hfb.defers.symm) hag.1 (hop x hbel ?_) next)
        intro e he hb T' v hT' hv
        have hlt := hedge i o ho e (by simpa using he) hb
        rw [hvs e.on hlt] at hv
        injection hv with hv
        rw [← hv]
        exact hho e.on T' hT' (hpred e (by simpa using he) hb)
      · rename_i hw
        rw [if_neg hw] at hop
        exact next undef x hop.1 (hop.2 x) (hrefl _)
/-- Operation n waits for all ahead of it; all behind it wait for it. -/
def midB (l : List Oper) (n : Nat) : Bool := decide (n < l.length) && (List.range n).all (fun i => ((masks l []).getD n 0).testBit i) && (List.range l.length).all (fun j => decide (j ≤ n) || ((masks l []).getD j 0).testBit n)
theorem wp_region_mid (n : Nat) {P : Program} {id : Nat} {Q : Exit → Act → World → Prop} {a : Act} {w : World} {l : List Oper} (o : Oper) (ho : l[n]? = some o) (hg : o.guard = none) (hm : P.follows .mixedOrders = true) (hB : relB l.toArray = true) (hM : midB l n = true)
    (h0 : EqGo P l.toArray w (fun a' x => ∀ K : Act → World → Prop, (∀ v x', EqGo P l.toArray x' (fun a'' y => Q .normal a'' y) (l.drop (n + 1)) (a'.put o.dst v) → K (a'.put o.dst v) x') → o.wp P a' x K (fun _ _ _ => False)) (l.take n) a) : (Code.region id l.toArray true).wp P Q a w := by
  obtain ⟨hsel, hd, hedge, hlook⟩ := relB_spec hB
  obtain ⟨Ts, hlen, hrg⟩ := h0.rel
  have hgm : GoodM l.toArray (masks l []) := masks_spec l [] (fun k hk => by simp) (fun j i h => by simp at h)
  simp only [midB, Bool.and_eq_true, decide_eq_true_eq, List.all_eq_true, List.mem_range, Bool.or_eq_true] at hM
  obtain ⟨⟨hn, hM1⟩, hM2⟩ := hM
  have htl : (l.take n).length = n := by simp; omega
  rw [htl] at hlen
  have hahead : ∀ i, i < n → Reach l.toArray n i := fun i hi => hgm n i (hM1 i hi)
  have hbeh : ∀ j, n < j → j < l.toArray.size → Reach l.toArray j n := fun j h1 h2 => hgm j n ((hM2 j (by simpa using h2)).resolve_left (by omega))
  have hn : n < l.toArray.size := by simpa using hn
  have ho : l.toArray[n]? = some o := by simpa using ho
  have h := hrg Ts []
  generalize hops : l.toArray = ops at *
  have hl : ∀ j : Nat, j < (l.take n).length → (l.take n)[j]? = ops[0 + j]? := fun j hj => by
    rw [← hops]
    rw [htl] at hj
    simp [hj]
  have hpu0 : ∃ us : Nat → Value, ∀ (i : Nat) (T : TT), Ts[i]? = some T → T.pu (us i) := by
    refine ⟨fun i => match Ts[i]? with | some T => Classical.choose T.ne | none => undef, fun i T hT => ?_⟩
    simp only [hT]
    exact Classical.choose_spec T.ne
  obtain ⟨us0, hus0⟩ := hpu0
  refine wp_region_any hm ?_
  suffices H : ∀ (m : Nat) (listed : Array Bool) (a' : Act) (x : World) (us : Nat → Value), listed.size = ops.size → listed.toList.count false = m + (ops.size - n) → (∀ t : Nat, n ≤ t → t < ops.size → listed[t]? = some false) → BelR w x →
      FrameIs ops a a' (fun i => listed[i]? = some true) us → (∀ (i : Nat) (T : TT), Ts[i]? = some T → T.pu (us i)) → (∀ (i : Nat) (T : TT), Ts[i]? = some T → listed[i]? = some true → T.ho (us i) x) →
      (∀ (k : Nat) (q : Oper), ops[k]? = some q → listed[k]? = some true → ∀ e ∈ q.after, Region.binds .any e = true → listed[e.on]? = some true) → wpAny P .any ops Q (m + (ops.size - n)) listed a' x by
    have hs : n + (ops.size - n) = ops.size := by omega
    have H0 := H n (Array.replicate ops.size false) a { w with drawn := w.drawn + 1 } us0 (by simp) (by simp; omega) (fun t _ ht => by simp [ht]) ((Below.refl _ _).drew) (FrameIs.start fun i o hi => by
      have := (Array.getElem?_eq_some_iff.1 hi).1
      simp [this]) hus0 (fun i T _ hi => by simp [Array.getElem?_replicate] at hi) (fun k q _ hi => by simp [Array.getElem?_replicate] at hi)
    rw [hs] at H0
    exact H0
  intro m
  induction m with
  | zero =>
    intro listed a' x us hsz hcnt htail hbel hf hpu hho hcl
    have hall : ∀ i, i < n → listed[i]? = some true := by
      intro i hi
      have hsplit : listed.toList.count false = (listed.toList.take n).count false + (listed.toList.drop n).count false := by
        rw [← List.count_append, List.take_append_drop]
      have hdrop : (listed.toList.drop n).count false = ops.size - n := by
        rw [List.count_eq_length.2, List.length_drop, Array.length_toList, hsz]
        intro b hb
        obtain ⟨j, hj, rfl⟩ := List.mem_iff_getElem.1 hb
        have hj' : n + j < ops.size := by simp at hj; omega
        have := htail (n + j) (by omega) hj'
        rw [Array.getElem?_eq_getElem (by omega)] at this
        simp only [Option.some.injEq] at this
        rw [List.getElem_drop, Array.getElem_toList, this]
      have htake : (listed.toList.take n).count false = 0 := by omega
      have hi' : i < (listed.toList.take n).length := by simp; omega
      have hne : (listed.toList.take n)[i] ≠ false := fun e => by
        have hmem : false ∈ listed.toList.take n := by rw [← e]; exact List.getElem_mem _
        have := List.count_pos_iff.2 hmem
        omega
      have hv : listed[i]'(by omega) ≠ false := by simpa using hne
      rw [Array.getElem?_eq_getElem (by omega)]
      cases hb : listed[i]'(by omega) with
      | true => rfl
      | false => exact absurd hb hv
    obtain ⟨_, vs', b, hvs, hfb, hq⟩ := relGo_head hd hlen (l.take n) Ts 0 [] a a us (by omega) hl (fun j => by simp) rfl (fun i hi => by omega) (FrameIs.start fun i o _ => Nat.not_lt_zero i) hpu h
    have hab : a' = b := by
      have ht : a'.tmps = b.tmps := by
        apply Array.ext_getElem?
        intro t
        refine hf.agree hd hfb t fun i o hi _ => ?_
        rcases Nat.lt_or_ge i n with h1 | h1
        · exact .inl ⟨hall i h1, h1, rfl⟩
        · refine .inr ⟨fun e => ?_, by omega⟩
          rw [htail i h1 (Array.getElem?_eq_some_iff.1 hi).1] at e
          cases e
      have hdf : a'.defers = b.defers := hf.defers.trans hfb.defers.symm
      cases a'; cases b
      simp only at ht hdf
      rw [ht, hdf]
    have hq0 := hq x hbel fun i T v hT hv => by
      have hi : i < n := by rw [← hlen]; exact (List.getElem?_eq_some_iff.1 hT).1
      rw [hvs i hi] at hv
      injection hv with hv
      rw [← hv]
      exact hho i T hT (hall i hi)
    have hln : listed[n]? = some false := htail n (Nat.le_refl _) hn
    have hfuel : 0 + (ops.size - n) = (ops.size - n - 1) + 1 := by omega
    rw [hfuel]
    refine ⟨fun hrd => ?_, fun i hi => ?_⟩
    · exfalso
      have hmr : n ∈ Region.ready .any ops listed := by
        refine mem_ready.2 ⟨?_, o, ho, fun e he hb => ?_⟩
        · rw [Array.getD_eq_getD_getElem?, hln]; rfl
        · rw [Array.getD_eq_getD_getElem?, hall e.on (hedge n o ho e he hb)]; rfl
      rw [hrd] at hmr
      cases hmr
    · obtain ⟨h0, oi, hoi, halli⟩ := mem_ready.1 hi
      have hil : listed[i]? = some false := by
        have his := (Array.getElem?_eq_some_iff.1 hoi).1
        rw [Array.getD_eq_getD_getElem?, Array.getElem?_eq_getElem (by omega)] at h0
        rw [Array.getElem?_eq_getElem (by omega)]
        simpa using h0
      have hin : i = n := by
        rcases Nat.lt_trichotomy i n with h1 | h1 | h1
        · rw [hall i h1] at hil; cases hil
        · exact h1
        · exfalso
          have hrc := hbeh i h1 (Array.getElem?_eq_some_iff.1 hoi).1
          have hlt := hrc.listed (listed := listed) hcl (fun q hq' e he hb => by
            rw [hoi] at hq'
            injection hq' with hq'
            subst hq'
            have h2 := halli e he hb
            have h3 := hedge i oi hoi e he hb
            have his := (Array.getElem?_eq_some_iff.1 hoi).1
            rw [Array.getD_eq_getD_getElem?, Array.getElem?_eq_getElem (by omega)] at h2
            rw [Array.getElem?_eq_getElem (by omega)]
            simpa using h2)
          rw [hln] at hlt
          cases hlt
      subst hin
      rw [ho] at hoi
      injection hoi with hoi
      subst hoi
      unfold wpOp
      simp only [ho]
      rw [if_pos (by unfold Region.wanted; rw [hg])]
      rw [hab]
      refine .inl (upon_agree' (G := fun v x' => EqGo P ops x' (fun a'' y => Q .normal a'' y) (l.drop (i + 1)) (b.put o.dst v)) rfl rfl rfl hq0 ?_)
      intro v x' hG
      obtain ⟨Ts2, hl2, hr2⟩ := hG.rel
      have hvl : ((List.range i).map us ++ [v]).length = i + 1 := by simp
      refine relAny_from (R := BelR) (a1 := b.put o.dst v) (a := a) (w := x') (fun _ => Below.refl _ _) (fun h1 h2 => h1.trans (h2.mono h1.size)) hB (i + 1) (l.drop (i + 1)) (((List.range i).map us ++ [v]).map eqT ++ Ts2) Ts2 ((List.range i).map us ++ [v]) (fun k => if k = i then v else us k) ?_ ?_ ?_ hvl ?_ ?_ ?_ (hr2 _ _) (ops.size - i - 1) _ _ x' (fun k => if k < i + 1 then (if k = i then v else us k) else match Ts2[k - (i + 1)]? with | some T => Classical.choose T.ne | none => undef) ?_ ?_ ?_ (Below.refl _ _) ?_ ?_ ?_ ?_
      · rw [List.length_append, List.length_map, hvl, hl2]
        have : l.length = ops.size := by rw [← hops]; simp
        simp
        omega
      · intro j
        rw [← hops]
        simp
      · intro j
        rw [List.getElem?_append_right (by rw [List.length_map, hvl]; omega), List.length_map, hvl]
        congr 1
        omega
      · intro k hk
        by_cases hki : k = i
        · subst hki
          rw [List.getElem?_append_right (by simp)]
          simp
        · rw [List.getElem?_append_left (by simp; omega)]
          rw [List.getElem?_map, List.getElem?_range (by omega), if_neg hki]
          rfl
      · intro us2 hus2 k hk
        have hk' : (((List.range i).map us ++ [v]).map (eqT (R := BelR)) ++ Ts2)[k]? = some (eqT (if k = i then v else us k)) := by
          rw [List.getElem?_append_left (by rw [List.length_map, hvl]; omega), List.getElem?_map]
          by_cases hki : k = i
          · subst hki
            rw [List.getElem?_append_right (by simp)]
            simp
          · rw [List.getElem?_append_left (by simp; omega)]
            rw [List.getElem?_map, List.getElem?_range (by omega), if_neg hki]
            rfl
        exact (hus2 k _ hk').symm
      · intro us2 hus2
        have hfp := (FrameIs.put (vs' := us2) hd (h := (show FrameIs ops a b (fun k => k < i) us from hfb)) ho v (by rw [hus2 i (by omega)]; simp) (fun k hk hki => by rw [hus2 k (by omega), if_neg hki]))
        exact ⟨hfp.size, hfp.defers, fun k q d hq' hS => hfp.done k q d hq' (by have hS' : k < i + 1 := hS; show k < i ∨ k = i; omega), fun t ht => hfp.rest t (fun k q hq' hdst hS => ht k q hq' hdst (by have hS' : k < i ∨ k = i := hS; show k < i + 1; omega))⟩
      · simpa using hsz
      · have hil' : listed.toList[i]'(by simp; omega) = false := by
          rw [Array.getElem?_eq_getElem (by omega)] at hil
          simpa using hil
        rw [Array.toList_setIfInBounds, List.count_set (by simp; omega), hil', hcnt]
        simp
      · intro k hk
        by_cases hki : k = i
        · subst hki; rw [Array.getElem?_setIfInBounds_self_of_lt (by omega)]
        · rw [Array.getElem?_setIfInBounds_ne (by omega)]; exact hall k (by omega)
      · have hfp := (FrameIs.put (vs' := fun k => if k < i + 1 then (if k = i then v else us k) else match Ts2[k - (i + 1)]? with | some T => Classical.choose T.ne | none => undef) hd (h := (show FrameIs ops a b (fun k => k < i) us from hfb)) ho v (by simp) (fun k hk hki => by
          rw [if_pos (by omega), if_neg hki]))
        refine ⟨hfp.size, hfp.defers, fun k q d hq' hS => hfp.done k q d hq' ?_, fun t ht => hfp.rest t fun k q hq' hdst hS => ht k q hq' hdst ?_⟩
        · by_cases hki : k = i
          · exact .inr hki
          · rw [Array.getElem?_setIfInBounds_ne (by omega)] at hS
            rcases Nat.lt_or_ge k i with h1 | h1
            · exact .inl h1
            · rw [htail k h1 (Array.getElem?_eq_some_iff.1 hq').1] at hS; cases hS
        · rcases hS with hS | rfl
          · rw [Array.getElem?_setIfInBounds_ne (by omega)]; exact hall k hS
          · rw [Array.getElem?_setIfInBounds_self_of_lt (by omega)]
      · intro k T hT
        by_cases hk : k < i + 1
        · have hk' : (((List.range i).map us ++ [v]).map (eqT (R := BelR)) ++ Ts2)[k]? = some (eqT (if k = i then v else us k)) := by
            rw [List.getElem?_append_left (by rw [List.length_map, hvl]; omega), List.getElem?_map]
            by_cases hki : k = i
            · subst hki
              rw [List.getElem?_append_right (by simp)]
              simp
            · rw [List.getElem?_append_left (by simp; omega)]
              rw [List.getElem?_map, List.getElem?_range (by omega), if_neg hki]
              rfl
          rw [hk'] at hT
          injection hT with hT
          subst hT
          simp only [hk, if_true]
          exact rfl
        · rw [List.getElem?_append_right (by rw [List.length_map, hvl]; omega), List.length_map, hvl] at hT
          simp only [hk, if_false, hT]
          exact Classical.choose_spec T.ne
      · intro k T hT hS
        have hk : k < i + 1 := by
          rcases Nat.lt_or_ge k (i + 1) with h1 | h1
          · exact h1
          · rw [Array.getElem?_setIfInBounds_ne (by omega)] at hS
            have hks : k < listed.size := (Array.getElem?_eq_some_iff.1 hS).1
            rw [htail k (by omega) (by omega)] at hS
            cases hS
        have hk' : (((List.range i).map us ++ [v]).map (eqT (R := BelR)) ++ Ts2)[k]? = some (eqT (if k = i then v else us k)) := by
          rw [List.getElem?_append_left (by rw [List.length_map, hvl]; omega), List.getElem?_map]
          by_cases hki : k = i
          · subst hki
            rw [List.getElem?_append_right (by simp)]
            simp
          · rw [List.getElem?_append_left (by simp; omega)]
            rw [List.getElem?_map, List.getElem?_range (by omega), if_neg hki]
            rfl
        rw [hk'] at hT
        injection hT with hT
        subst hT
        trivial
      · intro k q hk hS e he hb
        have hlt := hedge k q hk e he hb
        have hki : k < i + 1 := by
          rcases Nat.lt_or_ge k (i + 1) with h1 | h1
          · exact h1
          · rw [Array.getElem?_setIfInBounds_ne (by omega)] at hS
            rw [htail k (by omega) (Array.getElem?_eq_some_iff.1 hk).1] at hS
            cases hS
        rw [Array.getElem?_setIfInBounds_ne (by omega)]
        exact hall e.on (by omega)
  | succ m ih =>
    intro listed a' x us hsz hcnt htail hbel hf hpu hho hcl
    have hgetD : ∀ (i : Nat) (d : Bool), i < ops.size → listed.getD i d = listed[i]?.getD d := fun i d _ => Array.getD_eq_getD_getElem?
    have hexh : ∃ k, k < n ∧ listed[k]? = some false := by
      rcases Classical.em (∃ k, k < n ∧ listed[k]? = some false) with h1 | h1
      · exact h1
      · exfalso
        have hsplit : listed.toList.count false = (listed.toList.take n).count false + (listed.toList.drop n).count false := by
          rw [← List.count_append, List.take_append_drop]
        have hdrop : (listed.toList.drop n).count false ≤ ops.size - n := by
          have := List.count_le_length (a := false) (l := listed.toList.drop n)
          rw [List.length_drop, Array.length_toList, hsz] at this
          exact this
        have htake : (listed.toList.take n).count false = 0 := by
          rw [List.count_eq_zero]
          intro hmem
          obtain ⟨k, hk, hkv⟩ := List.mem_iff_getElem.1 hmem
          have hk' : k < n ∧ k < listed.size := by simp at hk; omega
          refine h1 ⟨k, hk'.1, ?_⟩
          rw [Array.getElem?_eq_getElem hk'.2]
          simpa using hkv
        omega
    obtain ⟨k0, hk0, hk0v⟩ := hexh
    have hnotail : ∀ t, n ≤ t → t ∉ Region.ready .any ops listed := by
      intro t ht hmt
      obtain ⟨_, ot, hot, hallt⟩ := mem_ready.1 hmt
      have hts := (Array.getElem?_eq_some_iff.1 hot).1
      have hdt : ∀ q, ops[t]? = some q → ∀ e ∈ q.after, Region.binds .any e = true → listed[e.on]? = some true := fun q hq e he hb => by
        rw [hot] at hq
        injection hq with hq
        subst hq
        have h2 := hallt e he hb
        have h3 := hedge t ot hot e he hb
        rw [Array.getD_eq_getD_getElem?, Array.getElem?_eq_getElem (by omega)] at h2
        rw [Array.getElem?_eq_getElem (by omega)]
        simpa using h2
      rcases Nat.lt_or_ge n t with h1 | h1
      · have := (hbeh t h1 hts).listed (listed := listed) hcl hdt
        rw [htail n (Nat.le_refl _) hn] at this
        cases this
      · obtain rfl : t = n := by omega
        have := (hahead k0 hk0).listed (listed := listed) hcl hdt
        rw [hk0v] at this
        cases this
    have hfuel : m + 1 + (ops.size - n) = (m + (ops.size - n)) + 1 := by omega
    rw [hfuel]
    refine ⟨fun hr => ?_, fun i hi => ?_⟩
    · exfalso
      obtain ⟨n1, ⟨hn1, hnl⟩, hmin⟩ := exists_least (p := fun k => k < n ∧ listed[k]? ≠ some true) ⟨k0, hk0, by rw [hk0v]; simp⟩
      obtain ⟨o, ho⟩ : ∃ o, ops[n1]? = some o := ⟨ops[n1]'(by omega), Array.getElem?_eq_getElem (by omega)⟩
      have hmr : n1 ∈ Region.ready .any ops listed := by
        refine mem_ready.2 ⟨?_, o, ho, fun e he hb => ?_⟩
        · rw [Array.getD_eq_getD_getElem?, Array.getElem?_eq_getElem (by omega)]
          rw [Array.getElem?_eq_getElem (by omega)] at hnl
          simpa using hnl
        · have hlt := hedge n1 o ho e he hb
          have : listed[e.on]? = some true := by
            rcases Classical.em (listed[e.on]? = some true) with h1 | h1
            · exact h1
            · have := hmin e.on ⟨by omega, h1⟩; omega
          rw [Array.getD_eq_getD_getElem?, this]; rfl
      rw [hr] at hmr
      cases hmr
    · have hin : i < n := by
        rcases Nat.lt_or_ge i n with h1 | h1
        · exact h1
        · exact absurd hi (hnotail i h1)
      obtain ⟨h0, o, ho, hall⟩ := mem_ready.1 hi
      have hil : listed[i]? = some false := by
        rw [Array.getD_eq_getD_getElem?, Array.getElem?_eq_getElem (by omega)] at h0
        rw [Array.getElem?_eq_getElem (by omega)]
        simpa using h0
      have hpred : ∀ e ∈ o.after, Region.binds .any e = true → listed[e.on]? = some true := fun e he hb => by
        have h1 := hall e he hb
        have hlt := hedge i o ho e he hb
        rw [Array.getD_eq_getD_getElem?, Array.getElem?_eq_getElem (by omega)] at h1
        rw [Array.getElem?_eq_getElem (by omega)]
        simpa using h1
      obtain ⟨T, hT⟩ : ∃ T, Ts[i]? = some T := ⟨Ts[i]'(by omega), List.getElem?_eq_getElem (by omega)⟩
      obtain ⟨vs', b, hvs, hfb, hop⟩ := (relGo_head hd hlen (l.take n) Ts 0 [] a a us (by omega) hl (fun j => by simp) rfl (fun i hi => by omega) (FrameIs.start fun i o _ => Nat.not_lt_zero i) hpu h).1 i o T (Nat.zero_le _) hin ho hT
      have hag := eval_agree (a := a') (b := b) (ops := ops) (fun cs b => hsel i o cs b ho) (fun t ht => by
        refine hf.agree hd hfb t fun k q hk hq => ?_
        by_cases hki : k = i
        · subst hki
          exact .inr ⟨(fun e => (by rw [hil] at e; cases e)), Nat.lt_irrefl _⟩
        · rcases hlook k i q o t hk ho hki hq ht with ⟨hlt, e, he, hb, hon⟩ | ⟨hlt, e, he, hb, hon⟩
          · exact .inl ⟨hon ▸ hpred e he hb, hlt, rfl⟩
          · exact .inr ⟨(fun hS => (by
              have := hcl k q hk hS e he hb
              rw [hon, hil] at this; cases this)), by omega⟩)
      have next : ∀ v x', T.pu v → T.ho v x' → BelR x x' → wpAny P .any ops Q (m + (ops.size - n)) (listed.setIfInBounds i true) (a'.put o.dst v) x' := by
        intro v x' hpv hhv hbx
        refine ih _ _ _ (fun k => if k = i then v else us k) (by simpa using hsz) ?_ ?_ (hbel.trans (hbx.mono hbel.size)) ?_ ?_ ?_ ?_
        · have hil' : listed.toList[i]'(by simp; omega) = false := by
            rw [Array.getElem?_eq_getElem (by omega)] at hil
            simpa using hil
          rw [Array.toList_setIfInBounds, List.count_set (by simp; omega), hil', hcnt]
          simp <;> omega
        · intro t ht hts
          rw [Array.getElem?_setIfInBounds_ne (by omega)]
          exact htail t ht hts
        · have := hf.put hd ho (vs' := fun k => if k = i then v else us k) v (by simp) (fun k _ hk => by simp [hk])
          refine ⟨this.size, this.defers, fun k q d hk hS => this.done k q d hk ?_, fun t ht => this.rest t fun k q hk hq hS => ht k q hk hq ?_⟩
          · by_cases hki : k = i
            · exact .inr hki
            · rw [Array.getElem?_setIfInBounds_ne (by omega)] at hS; exact .inl hS
          · rcases hS with hS | rfl
            · by_cases hki : k = i
              · subst hki; rw [hil] at hS; cases hS
              · rw [Array.getElem?_setIfInBounds_ne (by omega)]; exact hS
            · rw [Array.getElem?_setIfInBounds_self_of_lt (by omega)]
        · intro k T' hT'
          by_cases hki : k = i
          · subst hki
            rw [hT] at hT'; injection hT' with hT'; subst hT'
            simpa using hpv
          · simpa [hki] using hpu k T' hT'
        · intro k T' hT' hS
          by_cases hki : k = i
          · subst hki
            rw [hT] at hT'; injection hT' with hT'; subst hT'
            simpa using hhv
          · rw [Array.getElem?_setIfInBounds_ne (by omega)] at hS
            simp only [hki, if_false]
            exact T'.st _ _ _ (hho k T' hT' hS) hbx
        · intro k q hk hS e he hb
          by_cases hki : k = i
          · subst hki
            rw [ho] at hk; injection hk with hk; subst hk
            have hlt := hedge k o ho e he hb
            rw [Array.getElem?_setIfInBounds_ne (by omega)]
            exact hpred e he hb
          · rw [Array.getElem?_setIfInBounds_ne (by omega)] at hS
            have := hcl k q hk hS e he hb
            by_cases hei : e.on = i
            · rw [hei, hil] at this; cases this
            · rw [Array.getElem?_setIfInBounds_ne (by omega)]; exact this
      unfold wpOp
      simp only [ho]
      unfold opGoal at hop
      rw [hag.2]
      split
      · rename_i hw
        rw [if_pos hw] at hop
        refine .inl (upon_agree (hf.size.trans hfb.size.symm) (hf.defers.trans hfb.defers.symm) hag.1 (hop x hbel ?_) next)
        intro e he hb T' v hT' hv
        have hlt := hedge i o ho e (by simpa using he) hb
        rw [hvs e.on hlt] at hv
        injection hv with hv
        rw [← hv]
        exact hho e.on T' hT' (hpred e (by simpa using he) hb)
      · rename_i hw
        rw [if_neg hw] at hop
        exact next undef x hop.1 (hop.2 x) (Below.refl _ _)

end Go.Proofs.YthmeonimianoeaaDoor
