/- StoreKeeps: whatever variables, names and texts are handed in, the law answers true. No condition. -/
import Derived.Test.YtclifaehbdeldaaStoF
import Derived.Test.YtclifaehbdeldaaRelC
import Derived.Outline
set_option linter.unusedVariables false
set_option linter.unusedSimpArgs false
namespace Go.Proofs.Ytclifaehbdeldaa
open Go.RowKit Go.Maps Go.Sort

def KeyB (x : Sto) : Prop := ∀ p ∈ x.vars, p.1.length ≤ maxLen
theorem put_mem {α : Type} {n : Txt} {v : α} {M : List (Txt × α)} {p : Txt × α} (h : p ∈ putA n v M) : p.1 = n ∨ p ∈ M := by
  unfold putA loA hiA delA at h
  rw [List.mem_append, List.mem_cons] at h
  rcases h with h | rfl | h
  · exact .inr (List.mem_filter.1 ((List.takeWhile_prefix _).subset h)).1
  · exact .inl rfl
  · exact .inr (List.mem_filter.1 ((List.dropWhile_suffix _).subset h)).1
theorem keyB_set {x : Sto} (h : KeyB x) {n : Txt} (hn : n.length ≤ maxLen) (l : List Txt) : KeyB (setS x n l) := by
  unfold setS
  split
  · exact h
  · intro p hp
    rcases put_mem hp with he | hp
    · rw [he]; exact hn
    · exact h p hp
theorem newS_all (V : List (Txt × List Txt)) (h : ∀ p ∈ V, p.1.length ≤ maxLen ∧ p.2.length ≤ 1000000) : KeyB (newS V) ∧ SmS (newS V) ∧ (newS V).vars.length ≤ V.length := by
  refine snoc_ind2 (p := fun V => (∀ p ∈ V, p.1.length ≤ maxLen ∧ p.2.length ≤ 1000000) → KeyB (newS V) ∧ SmS (newS V) ∧ (newS V).vars.length ≤ V.length) (fun _ => ⟨fun p h => (by cases h), sm_new, Nat.le_refl _⟩) (fun l q ih h => ?_) V h
  obtain ⟨h1, h2, h3⟩ := ih fun p hp => h p (List.mem_append_left _ hp)
  have hq := h q (List.mem_append_right _ (List.mem_singleton.2 rfl))
  rw [newS_snoc, List.length_append, List.length_cons, List.length_nil]
  refine ⟨keyB_set h1 hq.1 _, sm_set h2 hq.2, ?_⟩
  unfold setS
  split
  · exact Nat.le_succ_of_le h3
  · exact Nat.le_trans (put_len _ _ _) (by simpa using h3)
theorem sm_up {x : Sto} (h : SmS x) {l : List Txt} (hl : l.length ≤ 1000000) : ∀ ns : List Txt, SmS (upS x ns l) := by
  intro ns
  induction ns generalizing x with
  | nil => exact h
  | cons n ns ih => exact ih (sm_set h hl)
/-- What has been put aside. -/
def olds (x : Sto) (l : List Txt) (ns : List Txt) (i : Nat) : List Txt × Bool := getS (upS x (ns.take i) l) (ns.getD i [])
/-- A row of rows of texts. -/
def AllT (w : World) (us : List Value) (n : Nat) (f : Nat → List Txt) : Prop := us.length = n ∧ ∀ i (h : i < us.length), OT w us[i] (f i)
theorem AllT.others {w w' : World} {us : List Value} {n : Nat} {f : Nat → List Txt} (h : AllT w us n f) {ts : List TypeId} (ho : Others ts w w') (ht : 9 ∉ ts) : AllT w' us n f := ⟨h.1, fun i hi => (h.2 i hi).others ho ht⟩
theorem AllT.below {w w' : World} {us : List Value} {n : Nat} {f : Nat → List Txt} (h : AllT w us n f) (hb : Below w.heap.size w w') : AllT w' us n f := ⟨h.1, fun i hi => (h.2 i hi).below hb⟩
theorem AllT.butS {w w' : World} {us : List Value} {n : Nat} {f : Nat → List Txt} (h : AllT w us n f) {st vb fb : Nat} (hs : StoS w st vb fb) (hb : ButS [st, vb, fb] w w') : AllT w' us n f := ⟨h.1, fun i hi => (h.2 i hi).butS hs hb⟩
theorem AllT.snoc {w : World} {us : List Value} {n : Nat} {f : Nat → List Txt} (h : AllT w us n f) {v : Value} (hv : OT w v (f n)) : AllT w (us ++ [v]) (n + 1) f := by
  refine ⟨by simp [h.1], fun i hi => ?_⟩
  by_cases hlt : i < us.length
  · rw [List.getElem_append_left hlt]; exact h.2 i hlt
  · have he : i = n := by simp at hi; have := h.1; omega
    subst he
    rw [List.getElem_append_right (by omega)]
    simpa [h.1] using hv
theorem OwnV.butS {w w' : World} {B : Nat} {v : Value} {M : List (Txt × List Txt)} (h : OwnV w B v M) {st vb fb : Nat} (hs : StoS w st vb fb) (hb : ButS [st, vb, fb] w w') : OwnV w' B v M :=
  let ⟨A, c, vs, h1, h2, h3⟩ := h
  ⟨A, c, vs, h1, own_butS h2 hs hb (by decide), h3.mono fun v l h => OwnT.butS h hs hb⟩
theorem OwnV.others {w w' : World} {B : Nat} {v : Value} {M : List (Txt × List Txt)} (h : OwnV w B v M) {ts : List TypeId} (ho : Others ts w w') (h1 : 9 ∉ ts) (h2 : 26 ∉ ts) : OwnV w' B v M :=
  let ⟨A, c, vs, q1, q2, q3⟩ := h
  ⟨A, c, vs, q1, own_others q2 ho h2, q3.mono fun v l ⟨A, c, r1, r2⟩ => ⟨A, c, r1, own_others r2 ho h1⟩⟩
/-- The store, what it said at first, what has been put aside. -/
structure KpI (w wr : World) (b st vb fb N q : Nat) (x0 x : Sto) (l : List Txt) (ns : List Txt) (vw va : Value) (Al : Option Addr) (cl : Nat) (us : List Value) (Ah : Option Addr) (ch : Nat) : Prop where
  sto : StI wr st vb fb N x []
  was : OwnV wr 0 vw x0.vars
  args : OT wr va x0.args
  row : wr.ownsRow b 23 1 (.slice Al q cl) q us
  all : AllT wr us q (fun i => (olds x0 l ns i).1)
  had : wr.ownsRow b 4 1 (.slice Ah q ch) q ((List.range q).map fun i => Value.bool (olds x0 l ns i).2)
  bel : Below w.heap.size w wr
theorem KpI.below {w wr w' : World} {b st vb fb N q : Nat} {x0 x : Sto} {l ns : List Txt} {vw va : Value} {Al : Option Addr} {cl : Nat} {us : List Value} {Ah : Option Addr} {ch : Nat} (h : KpI w wr b st vb fb N q x0 x l ns vw va Al cl us Ah ch) (hb : Below wr.heap.size wr w') : KpI w w' b st vb fb N q x0 x l ns vw va Al cl us Ah ch :=
  ⟨h.sto.below hb, h.was.below hb, h.args.below hb, own_below h.row hb, h.all.below hb, own_below h.had hb, h.bel.trans (hb.mono h.bel.size)⟩
/-- The store has been told something. -/
theorem KpI.told {w wr w' : World} {b st vb fb N M q : Nat} {x0 x y : Sto} {l ns : List Txt} {vw va : Value} {Al : Option Addr} {cl : Nat} {us : List Value} {Ah : Option Addr} {ch : Nat} (h : KpI w wr b st vb fb N q x0 x l ns vw va Al cl us Ah ch) (hn : StI w' st vb fb M y []) (hb : ButS [st, vb, fb] wr w') (hg : ∀ q ∈ [st, vb, fb], w.heap.size ≤ q) : KpI w w' b st vb fb M q x0 y l ns vw va Al cl us Ah ch :=
  ⟨hn, h.was.butS h.sto.s hb, h.args.butS h.sto.s hb, own_butS h.row h.sto.s hb (by decide), h.all.butS h.sto.s hb, own_butS h.had h.sto.s hb (by decide), h.bel.trans (hb.below hg h.bel.size)⟩
theorem sm_get {x : Sto} (h : SmS x) (n : Txt) : (getS x n).1.length ≤ 1000000 := by
  unfold getS
  split
  · exact h.args
  · cases hl : lookA x.vars n with
    | none => exact Nat.zero_le _
    | some l => exact h.vars n l hl
theorem infoStrs : (Try.prog.info? 23).map (fun i => (i.zero, i.size, i.bytes)) = some (some (.slice none 0 0), 1, 24) := by kernel_rfl
theorem infoBool : (Try.prog.info? 4).map (fun i => (i.zero, i.size, i.bytes)) = some (some (.bool false), 1, 1) := by kernel_rfl

set_option maxRecDepth 100000 in
set_option maxHeartbeats 8000000 in
theorem stokeeps_walk (A0 : Option Addr) (c0 : Nat) (V : List (Txt × List Txt)) (A1 : Option Addr) (c1 : Nat) (ns : List Txt) (A2 : Option Addr) (c2 : Nat) (l : List Txt) (w : World) (hv : ValR w (.slice A0 V.length c0) V) (hn : TxR w (.slice A1 ns.length c1) ns) (hl : TxR w (.slice A2 l.length c2) l) (hVb : ∀ p ∈ V, p.1.length ≤ maxLen) (hnb : ∀ n ∈ ns, n.length ≤ maxLen) :
    Calls Try.prog 3 #[.slice A0 V.length c0, .slice A1 ns.length c1, .slice A2 l.length c2] w (Ret w (.bool true)) := by
  obtain ⟨i0, hi, hz0, hz1, hz2⟩ := info_parts infoStrs
  obtain ⟨j0, hj, hy0, hy1, hy2⟩ := info_parts infoBool
  obtain ⟨m, hm⟩ : ∃ m, m = V.length := ⟨_, rfl⟩
  obtain ⟨n, hnn⟩ : ∃ n, n = ns.length := ⟨_, rfl⟩
  obtain ⟨k2, hk2⟩ : ∃ k, k = l.length := ⟨_, rfl⟩
  rw [← hm] at hv
  rw [← hnn] at hn
  rw [← hk2] at hl
  rw [← hm, ← hnn, ← hk2]
  have HM := Lib.hid hm
  have HN := Lib.hid hnn
  have HL := Lib.hid hk2
  have HV := Lib.hid hv
  have HNS := Lib.hid hn
  have HLR := Lib.hid hl
  have HVB := Lib.hid hVb
  have HNB := Lib.hid hnb
  clear hm hnn hk2 hv hn hl hVb hnb
  go_enter Try.func3, Try.ntmps3
  go_wp2_with fail
  refine (first7_any w).mono ?_
  rintro e w1 ⟨rfl, hb⟩
  by_cases h10 : 10 < m
  · go_wp2_with fail
    go_ret
    exact ⟨rfl, hb⟩
  have h10' : decide ((10 : Int) < m) = false := decide_eq_false (by omega)
  by_cases h20 : 20 < n
  · go_wp2_with fail
    go_ret
    exact ⟨rfl, hb⟩
  have h20' : decide ((20 : Int) < n) = false := decide_eq_false (by omega)
  by_cases hl10 : 10 < k2
  · go_wp2_with fail
    go_ret
    exact ⟨rfl, hb⟩
  have hl10' : decide ((10 : Int) < k2) = false := decide_eq_false (by omega)
  go_upto_region 5 with (fail)
  obtain ⟨_, _, vs, he, hr, ha, -⟩ := HV.out
  injection he with he1 he2 he3
  subst he1 he3
  clear he2
  have HA := Lib.hid ha
  have HR := Lib.hid (hr.below hb)
  clear ha hr
  go_loopw [8] (fun i wr => ∃ k : Nat, k ≤ m ∧ i = .int .i64 k ∧ wr = w1 ∧ Hid (∀ j (_ : j < k) (h : j < V.length), V[j].2.length ≤ 20)) (fun i _ => m - (intOf i).toNat)
  case atStart => exact ⟨0, Nat.zero_le _, rfl, rfl, Lib.hid (fun j h => absurd h (Nat.not_lt_zero _))⟩
  case round =>
    obtain ⟨k, hk, rfl, hwr, HS⟩ := hrel
    obtain rfl : w1 = wr := hwr.symm
    by_cases hlt : k < m
    · have hkV : k < V.length := by rw [← HM.out]; exact hlt
      have hkv : k < vs.length := by rw [HA.out.1]; exact hkV
      obtain ⟨b, o, rfl, _, hc⟩ := HR.out k hkv
      have q1 := hc 1 _ rfl
      have hx := HA.out.2 k hkv hkV
      obtain ⟨u, hu⟩ : ∃ u, u = vs[k].2 := ⟨_, rfl⟩
      rw [← hu] at q1 hx
      obtain ⟨p, hp⟩ : ∃ p, p = V[k] := ⟨_, rfl⟩
      rw [← hp] at hx
      obtain ⟨Au, cu, rfl, -⟩ := hx.2
      have HP := Lib.hid (show ∀ h : k < V.length, V[k] = p from fun _ => hp.symm)
      obtain ⟨nl, hnl⟩ : ∃ nl, nl = p.2.length := ⟨_, rfl⟩
      rw [← hnl] at q1
      have HNL := Lib.hid hnl
      clear hc hu hp hx hkV hkv hnl
      by_cases h2 : 20 < nl
      · go_wp2_with fail
        go_ret
        exact ⟨rfl, hb⟩
      · have HS2 := Lib.hid (show ∀ j (_ : j < k + 1) (h : j < V.length), V[j].2.length ≤ 20 from fun j h h' => by
          rcases Nat.lt_succ_iff_lt_or_eq.1 h with h | rfl
          · exact HS.out j h h'
          · rw [HP.out h', ← HNL.out]; omega)
        go_wp2_with fail
        go_roundw
        case rel => exact ⟨k + 1, by omega, by go_num, trivial, HS2⟩
        case measure => simp [intOf]; omega
    · obtain rfl : k = m := by omega
      have HSV := Lib.hid (show ∀ p ∈ V, p.1.length ≤ maxLen ∧ p.2.length ≤ 1000000 from fun p hp => by
        obtain ⟨j, hj, rfl⟩ := List.mem_iff_getElem.1 hp
        exact ⟨HVB.out _ hp, Nat.le_trans (HS.out j (by rw [HM.out]; exact hj) hj) (by decide)⟩)
      clear HS hlt HR
      have HNW := Lib.hid (new_any (.slice A0 k c0) V w1 (HV.out.below hb) (by rw [← HM.out]; omega) HSV.out)
      go_wp2_with fail
      refine HNW.out.mono ?_
      rintro e w2 ⟨st, vb, fb, rfl, hI2, hst, hvb, hfb, hb2⟩
      obtain ⟨hkb0, hsm0, hvl0⟩ := newS_all V HSV.out
      rw [← HM.out] at hI2 hvl0
      obtain ⟨x0, hx0⟩ : ∃ x0, x0 = newS V := ⟨_, rfl⟩
      rw [← hx0] at hkb0 hsm0 hvl0 hI2
      have HKB := Lib.hid hkb0
      have HSM := Lib.hid hsm0
      have HI2 := Lib.hid hI2
      have HSG := Lib.hid (show ∀ q ∈ [st, vb, fb], w.heap.size ≤ q from fun q hq => by
        have := hb.size
        simp only [List.mem_cons, List.not_mem_nil, or_false] at hq
        omega)
      have HB2 := Lib.hid (hb.trans (hb2.mono hb.size))
      have HVR := Lib.hid (vars_any st vb fb k x0 [] w2 hI2 hsm0 (by omega) (by omega) hkb0)
      clear hx0 hkb0 hsm0 hI2 hst hvb hfb hb2 hb HNW HSV HA
      go_wp2_with fail
      refine HVR.out.mono ?_
      rintro e w3 ⟨v3, rfl, h3, hb3⟩
      have HI3 := Lib.hid (HI2.out.below hb3)
      have HB3 := Lib.hid (HB2.out.trans (hb3.mono HB2.out.size))
      have HW3 := Lib.hid h3
      have HAR := Lib.hid (args_any st vb fb k x0 [] w3 HI3.out HSM.out.args)
      obtain ⟨A3, c3, vs3, rfl, -⟩ := h3
      clear HVR HI2 hb3
      go_wp2_with fail
      refine HAR.out.mono ?_
      rintro e w4 ⟨v4, rfl, h4, hb4⟩
      have HI4 := Lib.hid (HI3.out.below hb4)
      have HB4 := Lib.hid (HB3.out.trans (hb4.mono HB3.out.size))
      have HW4 := Lib.hid (HW3.out.below hb4)
      have HA4 := Lib.hid h4.ot
      obtain ⟨A4, c4, rfl, -⟩ := h4
      clear HAR HI3 hb4 HW3
      have HGD := Lib.hid (show GoodS x0 from HI4.out.sv)
      have HNA := Lib.hid HSM.out.args
      have HNV := Lib.hid (show x0.vars.length ≤ 1000000 by omega)
      obtain ⟨na, hna⟩ : ∃ na, na = x0.args.length := ⟨_, rfl⟩
      obtain ⟨nv, hnv⟩ : ∃ nv, nv = x0.vars.length := ⟨_, rfl⟩
      rw [← hna] at HA4 ⊢
      rw [← hnv] at HW4 hvl0 ⊢
      have HNVE := Lib.hid hnv
      clear hna hnv
      go_upto_region 17 with (fail)
      have HLT := Lib.hid (show vb < w4.heap.size ∧ fb < w4.heap.size from ⟨HI4.out.vars.lt, HI4.out.funs.lt⟩)
      have hbz := HB4.out.size
      go_loopw [12, 13, 14] (fun L H i wr => ∃ (q : Nat) (Al : Option Addr) (cl : Nat) (us : List Value) (Ah : Option Addr) (ch : Nat), q ≤ n ∧ i = .int .i64 q ∧ L = .slice Al q cl ∧ H = .slice Ah q ch ∧ Hid (KpI w wr w4.heap.size st vb fb (k + q) q x0 (upS x0 (ns.take q) l) l ns (.slice A3 nv c3) (.slice A4 na c4) Al cl us Ah ch) ∧ w4.heap.size ≤ wr.heap.size) (fun _ _ i _ => n - (intOf i).toNat)
      case atStart => exact ⟨0, none, 0, [], none, 0, Nat.zero_le _, rfl, rfl, rfl, Lib.hid ⟨by rw [List.take_zero]; exact HI4.out, (let ⟨A, c, vs, h1, h2, h3⟩ := HW4.out; ⟨A, c, vs, h1, own_mono h2 (Nat.zero_le _), h3.mono fun v l h => h.mono (Nat.zero_le _)⟩), HA4.out, World.ownsRow_nil _ _ _ _, ⟨rfl, fun i h => absurd h (Nat.not_lt_zero _)⟩, World.ownsRow_nil _ _ _ _, HB4.out⟩, Nat.le_refl _⟩
      case round =>
        obtain ⟨q, Al, cl, us, Ah, ch, hq, rfl, rfl, rfl, HK, hsz⟩ := hrel
        generalize wr = wk at *
        by_cases hlt : q < n
        · have hqn : q < ns.length := by rw [← HN.out]; exact hlt
          obtain ⟨_, _, he, hnr, -⟩ := HNS.out
          injection he with he1 he2 he3
          subst he1 he3
          clear he2
          obtain ⟨bn, on, rfl, hbn, hcn⟩ := hnr q hqn
          have cn := cell_keep HK.out.bel (hcn 0 _ rfl)
          simp only [Nat.mul_one, Nat.add_zero] at cn
          replace hbn := Nat.lt_of_lt_of_le hbn hbz
          obtain ⟨nm, hnm⟩ : ∃ nm, nm = ns[q] := ⟨_, rfl⟩
          rw [← hnm] at cn
          have HTK := Lib.hid (show upS x0 (ns.take (q + 1)) l = setS (upS x0 (ns.take q) l) nm l by rw [List.take_succ_eq_append_getElem hqn, ← hnm, upS_snoc])
          have HOL := Lib.hid (show getS (upS x0 (ns.take q) l) nm = olds x0 l ns q by unfold olds; rw [List.getD_eq_getElem?_getD, List.getElem?_eq_getElem hqn, ← hnm]; rfl)
          have hnl := HNB.out nm (by rw [hnm]; exact List.getElem_mem _)
          have HSW := Lib.hid (fun (W : World) (hW : Below wk.heap.size wk W) => swap_any st vb fb (k + q) (upS x0 (ns.take q) l) [] nm true (.slice A2 k2 c2) l W (HK.out.sto.below hW) (sm_up HSM.out (by rw [← HL.out]; omega) _) (by omega) hnl ((HLR.out.below HK.out.bel).below hW) (by rw [← HL.out]; omega))
          rw [show ∀ y : Sto, swapS y nm true l = setS y nm l from fun _ => rfl, ← HTK.out, HOL.out] at HSW
          have HNL := Lib.hid hnl
          clear hcn hnr hnm hqn hnl
          go_upto_region 19 with (fail)
          have l0 := Later.cell cn
          refine wp_region_mid 8 _ rfl rfl (by kernel_rfl) (by kernel_rfl) (by kernel_rfl) ?_
          apply EqGo.run
          focus
            kernel_rfl
          focus
            intro x K hK
            go_wp2_with fail
            first | exact hK x (Below.refl _ _) | exact Below.refl _ _
          simp only [Act.put, List.setIfInBounds_toArray, List.set_cons_succ, List.set_cons_zero]
          apply EqGo.run
          focus
            kernel_rfl
          focus
            intro x K hK
            go_wp2_with fail
            first | exact hK x (Below.refl _ _) | exact Below.refl _ _
          simp only [Act.put, List.setIfInBounds_toArray, List.set_cons_succ, List.set_cons_zero]
          apply EqGo.run
          focus
            kernel_rfl
          focus
            intro x K hK
            go_wp2_with fail
            first | exact hK x (Below.refl _ _) | exact Below.refl _ _
          simp only [Act.put, List.setIfInBounds_toArray, List.set_cons_succ, List.set_cons_zero]
          apply EqGo.run
          focus
            kernel_rfl
          focus
            intro x K hK
            go_wp2_with fail
            first | exact hK x (Below.refl _ _) | exact Below.refl _ _
          simp only [Act.put, List.setIfInBounds_toArray, List.set_cons_succ, List.set_cons_zero]
          apply EqGo.run
          focus
            kernel_rfl
          focus
            intro x K hK
            go_wp2_with fail
            first | exact hK x (Below.refl _ _) | exact Below.refl _ _
          simp only [Act.put, List.setIfInBounds_toArray, List.set_cons_succ, List.set_cons_zero]
          apply EqGo.run
          focus
            kernel_rfl
          focus
            intro x K hK
            go_wp2_with fail
            first | exact hK x (Below.refl _ _) | exact Below.refl _ _
          simp only [Act.put, List.setIfInBounds_toArray, List.set_cons_succ, List.set_cons_zero]
          apply EqGo.run
          focus
            kernel_rfl
          focus
            intro x K hK
            go_wp2_with fail
            first | exact hK x (Below.refl _ _) | exact Below.refl _ _
          simp only [Act.put, List.setIfInBounds_toArray, List.set_cons_succ, List.set_cons_zero]
          apply EqGo.run
          focus
            kernel_rfl
          focus
            intro x K hK
            go_wp2_with fail
            first | exact hK x (Below.refl _ _) | exact Below.refl _ _
          simp only [Act.put, List.setIfInBounds_toArray, List.set_cons_succ, List.set_cons_zero]
          intro y K hK
          have HSY := Lib.hid (HSW.out y.val y.below)
          have HKY := Lib.hid (HK.out.below y.below)
          have hszy := Nat.le_trans hsz y.below.size
          have cny := l0 y
          clear HSW HK cn hsz l0
          go_wp2_with fail
          refine HSY.out.mono ?_
          rintro e w5 ⟨v5, rfl, h5, hI5, hb5⟩
          have HK5 := Lib.hid (HKY.out.told hI5 hb5 HSG.out)
          have HV5 := Lib.hid h5.ot
          have cn5 := hb5.cell cny (HKY.out.sto.s.apart cny rfl)
          have hsz5 := Nat.le_trans hszy hb5.size
          obtain ⟨A5, c5, rfl, -⟩ := h5
          obtain ⟨oq, hoq⟩ : ∃ oq, oq = olds x0 l ns q := ⟨_, rfl⟩
          rw [← hoq] at HV5 ⊢
          have HOQ := Lib.hid hoq
          clear hI5 hb5 HSY HKY cny hszy hoq
          refine hK _ _ ?_
          clear hK K
          simp only [Act.put, List.setIfInBounds_toArray, List.set_cons_succ, List.set_cons_zero]
          apply EqGo.run
          focus
            kernel_rfl
          focus
            intro x K hK
            go_wp2_with fail
            first | exact hK x (Below.refl _ _) | exact Below.refl _ _
          simp only [Act.put, List.setIfInBounds_toArray, List.set_cons_succ, List.set_cons_zero]
          apply EqGo.run
          focus
            kernel_rfl
          focus
            intro x K hK
            go_wp2_with fail
            first | exact hK x (Below.refl _ _) | exact Below.refl _ _
          simp only [Act.put, List.setIfInBounds_toArray, List.set_cons_succ, List.set_cons_zero]
          apply EqGo.run
          focus
            kernel_rfl
          focus
            intro x K hK
            go_wp2_with fail
            first | exact hK x (Below.refl _ _) | exact Below.refl _ _
          simp only [Act.put, List.setIfInBounds_toArray, List.set_cons_succ, List.set_cons_zero]
          apply EqGo.run
          focus
            kernel_rfl
          focus
            intro x K hK
            go_wp2_with fail
            first | exact hK x (Below.refl _ _) | exact Below.refl _ _
          simp only [Act.put, List.setIfInBounds_toArray, List.set_cons_succ, List.set_cons_zero]
          apply EqGo.run
          focus
            kernel_rfl
          focus
            intro x K hK
            go_wp2_with fail
            first | exact hK x (Below.refl _ _) | exact Below.refl _ _
          simp only [Act.put, List.setIfInBounds_toArray, List.set_cons_succ, List.set_cons_zero]
          intro y2
          replace HK5 := Lib.hid (HK5.out.below y2.below)
          replace HV5 := Lib.hid (HV5.out.below y2.below)
          replace cn5 := cell_keep y2.below cn5
          replace hsz5 := Nat.le_trans hsz5 y2.below.size
          generalize y2.val = w5' at *
          clear y2
          have hrow5 := HK5.out.row
          go_upto_region 21 with (at_builtin; refine wpList_push rfl _ _ _ rfl Try.underlying39 hi hz0 hz1 hz2 rfl (by decide) hrow5 rfl rfl rfl (by simp [Value.oneCell']) (by omega) (by decide) hsz5 ?_; intro A6 c6 w6 hown6 hb6 hoo6)
          have HX6 := Lib.hid (And.intro (HK5.out.sto.others hoo6 (by decide) (by decide) (by decide) hb6 HLT.out.1 HLT.out.2) (And.intro (HK5.out.was.others hoo6 (by decide) (by decide)) (And.intro (HK5.out.args.others hoo6 (by decide)) (And.intro ((HK5.out.all.others hoo6 (by decide)).snoc (by rw [← HOQ.out]; exact HV5.out.others hoo6 (by decide))) (HK5.out.bel.trans (hb6.mono hbz))))))
          have hhad6 := own_others HK5.out.had hoo6 (by decide)
          have cn6 := (hb6.cell (p := ⟨bn, on + q, none⟩) hbn).trans cn5
          have hsz6 := Nat.le_trans hsz5 hb6.size
          have HR6 := Lib.hid hown6
          clear hrow5 HK5 HV5 hoo6 hb6 cn5 hsz5 hown6
          go_upto_region 22 with (at_builtin; refine wpList_push rfl _ _ _ rfl Try.underlying40 hj hy0 hy1 hy2 rfl (by decide) hhad6 rfl rfl rfl (by simp [Value.oneCell']) (by omega) (by decide) hsz6 ?_; intro A7 c7 w7 hown7 hb7 hoo7)
          have HK7 := Lib.hid (show KpI w w7 w4.heap.size st vb fb (k + q + 1) (q + 1) x0 (upS x0 (ns.take (q + 1)) l) l ns (.slice A3 nv c3) (.slice A4 na c4) A6 c6 (us ++ [.slice A5 oq.1.length c5]) A7 c7 from
            ⟨HX6.out.1.others hoo7 (by decide) (by decide) (by decide) hb7 HLT.out.1 HLT.out.2, HX6.out.2.1.others hoo7 (by decide) (by decide), HX6.out.2.2.1.others hoo7 (by decide), own_others HR6.out hoo7 (by decide), HX6.out.2.2.2.1.others hoo7 (by decide), by
              rw [List.range_succ, List.map_append, List.map_cons, List.map_nil, ← HOQ.out]
              simpa using hown7, HX6.out.2.2.2.2.trans (hb7.mono hbz)⟩)
          have cn7 := (hb7.cell (p := ⟨bn, on + q, none⟩) hbn).trans cn6
          have hsz7 := Nat.le_trans hsz6 hb7.size
          clear hhad6 HX6 HR6 hoo7 hb7 cn6 hsz6 hown7 HOQ HOL
          have HGT := Lib.hid (fun (W : World) (hW : Below w7.heap.size w7 W) => get_any st vb fb (k + q + 1) (upS x0 (ns.take (q + 1)) l) [] nm W (HK7.out.sto.below hW) (sm_up HSM.out (by rw [← HL.out]; omega) _) HNL.out)
          rw [show getS (upS x0 (ns.take (q + 1)) l) nm = (l, true) by rw [HTK.out, get_set]] at HGT
          have l0 := Later.cell cn7
          refine wp_region_mid 7 _ rfl rfl (by kernel_rfl) (by kernel_rfl) (by kernel_rfl) ?_
          apply EqGo.run
          focus
            kernel_rfl
          focus
            intro x K hK
            go_wp2_with fail
            first | exact hK x (Below.refl _ _) | exact Below.refl _ _
          simp only [Act.put, List.setIfInBounds_toArray, List.set_cons_succ, List.set_cons_zero]
          apply EqGo.run
          focus
            kernel_rfl
          focus
            intro x K hK
            go_wp2_with fail
            first | exact hK x (Below.refl _ _) | exact Below.refl _ _
          simp only [Act.put, List.setIfInBounds_toArray, List.set_cons_succ, List.set_cons_zero]
          apply EqGo.run
          focus
            kernel_rfl
          focus
            intro x K hK
            go_wp2_with fail
            first | exact hK x (Below.refl _ _) | exact Below.refl _ _
          simp only [Act.put, List.setIfInBounds_toArray, List.set_cons_succ, List.set_cons_zero]
          apply EqGo.run
          focus
            kernel_rfl
          focus
            intro x K hK
            go_wp2_with fail
            first | exact hK x (Below.refl _ _) | exact Below.refl _ _
          simp only [Act.put, List.setIfInBounds_toArray, List.set_cons_succ, List.set_cons_zero]
          apply EqGo.run
          focus
            kernel_rfl
          focus
            intro x K hK
            go_wp2_with fail
            first | exact hK x (Below.refl _ _) | exact Below.refl _ _
          simp only [Act.put, List.setIfInBounds_toArray, List.set_cons_succ, List.set_cons_zero]
          apply EqGo.run
          focus
            kernel_rfl
          focus
            intro x K hK
            go_wp2_with fail
            first | exact hK x (Below.refl _ _) | exact Below.refl _ _
          simp only [Act.put, List.setIfInBounds_toArray, List.set_cons_succ, List.set_cons_zero]
          apply EqGo.run
          focus
            kernel_rfl
          focus
            intro x K hK
            go_wp2_with fail
            first | exact hK x (Below.refl _ _) | exact Below.refl _ _
          simp only [Act.put, List.setIfInBounds_toArray, List.set_cons_succ, List.set_cons_zero]
          intro y K hK
          have HGY := Lib.hid (HGT.out y.val y.below)
          have HKY := Lib.hid (HK7.out.below y.below)
          have hszy := Nat.le_trans hsz7 y.below.size
          clear HGT HK7 cn7 hsz7 l0
          go_wp2_with fail
          refine HGY.out.mono ?_
          rintro e w8 ⟨v8, rfl, h8, hb8⟩
          have HK8 := Lib.hid (HKY.out.below hb8)
          have HV8 := Lib.hid h8.rd
          have hsz8 := Nat.le_trans hszy hb8.size
          obtain ⟨A8, c8, rfl, -⟩ := h8
          clear hb8 HGY HKY hszy
          refine hK _ _ ?_
          clear hK K
          simp only [Act.put, List.setIfInBounds_toArray, List.set_cons_succ, List.set_cons_zero]
          apply EqGo.run
          focus
            kernel_rfl
          focus
            intro x K hK
            go_wp2_with fail
            first | exact hK x (Below.refl _ _) | exact Below.refl _ _
          simp only [Act.put, List.setIfInBounds_toArray, List.set_cons_succ, List.set_cons_zero]
          apply EqGo.run
          focus
            kernel_rfl
          focus
            intro x K hK
            go_wp2_with fail
            first | exact hK x (Below.refl _ _) | exact Below.refl _ _
          simp only [Act.put, List.setIfInBounds_toArray, List.set_cons_succ, List.set_cons_zero]
          apply EqGo.run
          focus
            kernel_rfl
          focus
            intro x K hK
            go_wp2_with fail
            first | exact hK x (Below.refl _ _) | exact Below.refl _ _
          simp only [Act.put, List.setIfInBounds_toArray, List.set_cons_succ, List.set_cons_zero]
          apply EqGo.run
          focus
            kernel_rfl
          focus
            intro x K hK
            go_wp2_with fail
            first | exact hK x (Below.refl _ _) | exact Below.refl _ _
          simp only [Act.put, List.setIfInBounds_toArray, List.set_cons_succ, List.set_cons_zero]
          apply EqGo.run
          focus
            kernel_rfl
          focus
            intro x K hK
            go_wp2_with fail
            first | exact hK x (Below.refl _ _) | exact Below.refl _ _
          simp only [Act.put, List.setIfInBounds_toArray, List.set_cons_succ, List.set_cons_zero]
          intro y2
          replace HK8 := Lib.hid (HK8.out.below y2.below)
          replace HV8 := Lib.hid (HV8.out.below y2.below)
          replace hsz8 := Nat.le_trans hsz8 y2.below.size
          generalize y2.val = w9 at *
          clear y2
          have HSME := Lib.hid (sametxt_v (.slice A8 l.length c8) (.slice A2 k2 c2) l l w9 HV8.out (HLR.out.below HK8.out.bel) (by rw [← HL.out]; omega) (by rw [← HL.out]; omega))
          rw [decide_eq_true rfl] at HSME
          clear HV8
          go_wp2_with fail
          refine HSME.out.mono ?_
          rintro e w10 ⟨rfl, hb10⟩
          have HK10 := Lib.hid (HK8.out.below hb10)
          have hsz10 := Nat.le_trans hsz8 hb10.size
          clear HK8 hb10 HSME hsz8
          go_wp2_with fail
          go_roundw
          case rel => exact ⟨q + 1, A6, c6, _, A7, c7, by omega, by go_num, rfl, rfl, HK10, hsz10⟩
          case measure => simp [intOf]; omega
        · obtain rfl : q = n := by omega
          rw [show ns.take q = ns from List.take_of_length_le (by rw [← HN.out]; exact Nat.le_refl _)] at HK
          go_upto_region 26 with (fail)
          clear hlt
          go_loopw [19] (fun i wr => ∃ j : Nat, j ≤ q ∧ i = .int .i64 ((j : Int) - 1) ∧ Hid (KpI w wr w4.heap.size st vb fb (k + q + (q - j)) q x0 (upS x0 (ns.take j) l) l ns (.slice A3 nv c3) (.slice A4 na c4) Al cl us Ah ch) ∧ w4.heap.size ≤ wr.heap.size) (fun i _ => (intOf i + 1).toNat)
          case atStart => exact ⟨q, Nat.le_refl _, rfl, Lib.hid (by rw [show ns.take q = ns from List.take_of_length_le (by rw [← HN.out]; exact Nat.le_refl _), Nat.sub_self]; exact HK.out), hsz⟩
          case round =>
            obtain ⟨j, hj, rfl, HKJ, hszj⟩ := hrel
            clear HK hsz
            generalize wr = wj at *
            cases j with
            | zero =>
              rw [List.take_zero, Nat.sub_zero] at HKJ
              have HKF := Lib.hid (show KpI w wj w4.heap.size st vb fb (k + q + q) q x0 x0 l ns (.slice A3 nv c3) (.slice A4 na c4) Al cl us Ah ch from HKJ.out)
              have HVR := Lib.hid (vars_any st vb fb (k + q + q) x0 [] wj HKF.out.sto HSM.out (by omega) HNV.out HKB.out)
              clear HKJ
              go_wp2_with fail
              refine HVR.out.mono ?_
              rintro e w5 ⟨v5, rfl, h5, hb5⟩
              have HK5 := Lib.hid (HKF.out.below hb5)
              have hml : ∀ p ∈ x0.vars, p.2.length ≤ 1000000 := fun p hp => HSM.out.vars p.1 p.2 (look_of_mem HGD.out hp)
              have HSV := Lib.hid (samevals_any v5 (.slice A3 nv c3) x0.vars x0.vars w5 h5.rd HK5.out.was.rd HNV.out HNV.out hml hml)
              rw [decide_eq_true rfl] at HSV
              obtain ⟨A5, c5, vs5, rfl, -⟩ := h5
              clear hb5 HVR HKF hml
              go_wp2_with fail
              refine HSV.out.mono ?_
              rintro e w6 ⟨rfl, hb6⟩
              have HK6 := Lib.hid (HK5.out.below hb6)
              have HAR := Lib.hid (args_any st vb fb (k + q + q) x0 [] w6 HK6.out.sto HNA.out)
              clear hb6 HSV HK5
              go_wp2_with fail
              refine HAR.out.mono ?_
              rintro e w7 ⟨v7, rfl, h7, hb7⟩
              have HK7 := Lib.hid (HK6.out.below hb7)
              have HSA := Lib.hid (sametxt_v v7 (.slice A4 na c4) x0.args x0.args w7 h7.rd HK7.out.args.rd HNA.out HNA.out)
              rw [decide_eq_true rfl] at HSA
              obtain ⟨A7, c7, rfl, -⟩ := h7
              clear hb7 HAR HK6
              go_wp2_with fail
              refine HSA.out.mono ?_
              rintro e w8 ⟨rfl, hb8⟩
              have hbf := HK7.out.bel.trans (hb8.mono HK7.out.bel.size)
              go_wp2_with fail
              go_ret
              exact ⟨rfl, hbf⟩
            | succ p =>
              have hpn : p < ns.length := by rw [← HN.out]; omega
              rw [show (((p + 1 : Nat) : Int) - 1) = (p : Int) by omega]
              obtain ⟨_, _, he, hnr, -⟩ := HNS.out
              injection he with he1 he2 he3
              subst he1 he3
              clear he2
              obtain ⟨bn, on, rfl, hbn, hcn⟩ := hnr p hpn
              have cn := cell_keep HKJ.out.bel (hcn 0 _ rfl)
              simp only [Nat.mul_one, Nat.add_zero] at cn
              obtain ⟨nm, hnm⟩ : ∃ nm, nm = ns[p] := ⟨_, rfl⟩
              rw [← hnm] at cn
              have hnl := HNB.out nm (by rw [hnm]; exact List.getElem_mem _)
              have hOL : olds x0 l ns p = getS (upS x0 (ns.take p) l) nm := by unfold olds; rw [List.getD_eq_getElem?_getD, List.getElem?_eq_getElem hpn, ← hnm]; rfl
              have HBK := Lib.hid (show swapS (upS x0 (ns.take (p + 1)) l) nm (olds x0 l ns p).2 (olds x0 l ns p).1 = upS x0 (ns.take p) l by
                rw [hOL, List.take_succ_eq_append_getElem hpn, ← hnm, upS_snoc]
                exact swap_back (good_up HGD.out l _) nm l)
              have hol : (olds x0 l ns p).1.length ≤ 1000000 := by rw [hOL]; exact sm_get (sm_up HSM.out (by rw [← HL.out]; omega) _) nm
              have hupl : p < us.length := by rw [HKJ.out.all.1]; omega
              obtain ⟨gl, rfl⟩ := (show ∃ g, Al = some ⟨g, 0, none⟩ by
                rcases HKJ.out.row.2 with ⟨he, h0⟩ | ⟨g, cap, cur, he, _⟩
                · omega
                · injection he with he1 _ _
                  exact ⟨g, he1⟩)
              obtain ⟨gh, rfl⟩ := (show ∃ g, Ah = some ⟨g, 0, none⟩ by
                rcases HKJ.out.had.2 with ⟨he, h0⟩ | ⟨g, cap, cur, he, _⟩
                · omega
                · injection he with he1 _ _
                  exact ⟨g, he1⟩)
              have cl1 := HKJ.out.row.cellAt p (by omega)
              rw [List.getElem?_eq_getElem hupl] at cl1
              have ch1 := HKJ.out.had.cellAt p (by omega)
              rw [List.getElem?_map, List.getElem?_range (by omega)] at ch1
              simp only [Option.map_some] at ch1
              have hou : OT wj us[p] (olds x0 l ns p).1 := HKJ.out.all.2 p hupl
              obtain ⟨Au, cu, hue⟩ := hou.form
              rw [hue] at cl1 hou
              obtain ⟨oq, hoq⟩ : ∃ oq, oq = olds x0 l ns p := ⟨_, rfl⟩
              rw [← hoq] at cl1 ch1 hou hol HBK
              have HSW := Lib.hid (fun (W : World) (hW : Below wj.heap.size wj W) => swap_any st vb fb (k + q + (q - (p + 1))) (upS x0 (ns.take (p + 1)) l) [] nm oq.2 _ oq.1 W (HKJ.out.sto.below hW) (sm_up HSM.out (by rw [← HL.out]; omega) _) (by omega) hnl (hou.rd.below hW) hol)
              rw [HBK.out, show k + q + (q - (p + 1)) + 1 = k + q + (q - p) by omega] at HSW
              have l0 := Later.cell cn
              have l1 := Later.cell ch1
              have l2 := Later.cell cl1
              generalize oq.1.length = on1 at *
              clear hcn hnr hnm hpn hnl hOL hol hupl hou hue hoq HBK cn cl1 ch1
              go_upto_region 28 with (fail)
              refine wp_region_mid 15 _ rfl rfl (by kernel_rfl) (by kernel_rfl) (by kernel_rfl) ?_
              apply EqGo.run
              focus
                kernel_rfl
              focus
                intro x K hK
                go_wp2_with fail
                first | exact hK x (Below.refl _ _) | exact Below.refl _ _
              simp only [Act.put, List.setIfInBounds_toArray, List.set_cons_succ, List.set_cons_zero]
              apply EqGo.run
              focus
                kernel_rfl
              focus
                intro x K hK
                go_wp2_with fail
                first | exact hK x (Below.refl _ _) | exact Below.refl _ _
              simp only [Act.put, List.setIfInBounds_toArray, List.set_cons_succ, List.set_cons_zero]
              apply EqGo.run
              focus
                kernel_rfl
              focus
                intro x K hK
                go_wp2_with fail
                first | exact hK x (Below.refl _ _) | exact Below.refl _ _
              simp only [Act.put, List.setIfInBounds_toArray, List.set_cons_succ, List.set_cons_zero]
              apply EqGo.run
              focus
                kernel_rfl
              focus
                intro x K hK
                go_wp2_with fail
                first | exact hK x (Below.refl _ _) | exact Below.refl _ _
              simp only [Act.put, List.setIfInBounds_toArray, List.set_cons_succ, List.set_cons_zero]
              apply EqGo.run
              focus
                kernel_rfl
              focus
                intro x K hK
                go_wp2_with fail
                first | exact hK x (Below.refl _ _) | exact Below.refl _ _
              simp only [Act.put, List.setIfInBounds_toArray, List.set_cons_succ, List.set_cons_zero]
              apply EqGo.run
              focus
                kernel_rfl
              focus
                intro x K hK
                go_wp2_with fail
                first | exact hK x (Below.refl _ _) | exact Below.refl _ _
              simp only [Act.put, List.setIfInBounds_toArray, List.set_cons_succ, List.set_cons_zero]
              apply EqGo.run
              focus
                kernel_rfl
              focus
                intro x K hK
                go_wp2_with fail
                first | exact hK x (Below.refl _ _) | exact Below.refl _ _
              simp only [Act.put, List.setIfInBounds_toArray, List.set_cons_succ, List.set_cons_zero]
              apply EqGo.run
              focus
                kernel_rfl
              focus
                intro x K hK
                go_wp2_with fail
                first | exact hK x (Below.refl _ _) | exact Below.refl _ _
              simp only [Act.put, List.setIfInBounds_toArray, List.set_cons_succ, List.set_cons_zero]
              apply EqGo.run
              focus
                kernel_rfl
              focus
                intro x K hK
                go_wp2_with fail
                first | exact hK x (Below.refl _ _) | exact Below.refl _ _
              simp only [Act.put, List.setIfInBounds_toArray, List.set_cons_succ, List.set_cons_zero]
              apply EqGo.run
              focus
                kernel_rfl
              focus
                intro x K hK
                go_wp2_with fail
                first | exact hK x (Below.refl _ _) | exact Below.refl _ _
              simp only [Act.put, List.setIfInBounds_toArray, List.set_cons_succ, List.set_cons_zero]
              apply EqGo.run
              focus
                kernel_rfl
              focus
                intro x K hK
                go_wp2_with fail
                first | exact hK x (Below.refl _ _) | exact Below.refl _ _
              simp only [Act.put, List.setIfInBounds_toArray, List.set_cons_succ, List.set_cons_zero]
              apply EqGo.run
              focus
                kernel_rfl
              focus
                intro x K hK
                go_wp2_with fail
                first | exact hK x (Below.refl _ _) | exact Below.refl _ _
              simp only [Act.put, List.setIfInBounds_toArray, List.set_cons_succ, List.set_cons_zero]
              apply EqGo.run
              focus
                kernel_rfl
              focus
                intro x K hK
                go_wp2_with fail
                first | exact hK x (Below.refl _ _) | exact Below.refl _ _
              simp only [Act.put, List.setIfInBounds_toArray, List.set_cons_succ, List.set_cons_zero]
              apply EqGo.run
              focus
                kernel_rfl
              focus
                intro x K hK
                go_wp2_with fail
                first | exact hK x (Below.refl _ _) | exact Below.refl _ _
              simp only [Act.put, List.setIfInBounds_toArray, List.set_cons_succ, List.set_cons_zero]
              apply EqGo.run
              focus
                kernel_rfl
              focus
                intro x K hK
                go_wp2_with fail
                first | exact hK x (Below.refl _ _) | exact Below.refl _ _
              simp only [Act.put, List.setIfInBounds_toArray, List.set_cons_succ, List.set_cons_zero]
              intro y K hK
              have HSY := Lib.hid (HSW.out y.val y.below)
              have HKY := Lib.hid (HKJ.out.below y.below)
              have hszy := Nat.le_trans hszj y.below.size
              clear HSW HKJ l0 l1 l2 hszj
              go_wp2_with fail
              refine HSY.out.mono ?_
              rintro e w5 ⟨v5, rfl, h5, hI5, hb5⟩
              have HK5 := Lib.hid (HKY.out.told hI5 hb5 HSG.out)
              have hsz5 := Nat.le_trans hszy hb5.size
              clear hI5 hb5 HSY HKY hszy h5
              refine hK _ _ ?_
              clear hK K
              intro y2
              replace HK5 := Lib.hid (HK5.out.below y2.below)
              replace hsz5 := Nat.le_trans hsz5 y2.below.size
              generalize y2.val = w6 at *
              clear y2
              go_wp2_with fail
              go_roundw
              case rel => exact ⟨p, by omega, by go_num, HK5, hsz5⟩
              case measure => simp [intOf]
end Go.Proofs.Ytclifaehbdeldaa
