/- StoreApart: whatever is told to a store, its clone, and it again, and whatever is done to what it answered, the law answers true. No condition. -/
import Derived.Test.YtcnkljbckpkgcaaLawStoPlays
import Derived.Test.YtcnkljbckpkgcaaStoC
set_option linter.unusedVariables false
set_option linter.unusedSimpArgs false
namespace Go.Proofs.Ytcnkljbckpkgcaa
open Go.RowKit Go.Maps Go.Sort

/-- One of the things told, its cells. -/
theorem DoR.at_ {w : World} {A : Option Addr} {n c j : Nat} {D : List DoD} (h : DoR w (.slice A n c) D) (hn : n = D.length) (hj : j < n) :
    ∃ b o d Al cl Ap cp, A = some ⟨b, o, none⟩ ∧ b < w.heap.size ∧ w.cell? ⟨b, o + j * 5, none⟩ = some (.int .i64 d.kind) ∧ w.cell? ⟨b, o + j * 5 + 1, none⟩ = some (.string ⟨d.name.toArray⟩) ∧ w.cell? ⟨b, o + j * 5 + 2, none⟩ = some (.slice Al d.l.length cl) ∧ w.cell? ⟨b, o + j * 5 + 3, none⟩ = some (.bool d.has) ∧ w.cell? ⟨b, o + j * 5 + 4, none⟩ = some (.slice Ap d.p.length cp) ∧
      TxR w (.slice Al d.l.length cl) d.l ∧ SlRd w (.slice Ap d.p.length cp) d.p ∧ ∃ h : j < D.length, D[j] = d := by
  obtain ⟨A', c', ys, he, hr, ha, _⟩ := h
  injection he with he1 _ he3
  subst he1 he3
  have hjD : j < D.length := by omega
  have hjy : j < ys.length := by rw [ha.1]; exact hjD
  obtain ⟨b, o, rfl, hb, hc⟩ := hr j hjy
  obtain ⟨k1, k2, k3, k4, k5⟩ := ha.2 j hjy hjD
  obtain ⟨Al, cl, hl, h4⟩ := k4
  obtain ⟨Ap, cp, hp, h5⟩ := k5
  have q0 := hc 0 _ rfl
  have q1 := hc 1 _ rfl
  have q2 := hc 2 _ rfl
  have q3 := hc 3 _ rfl
  have q4 := hc 4 _ rfl
  rw [k1] at q0
  rw [k2] at q1
  rw [hl] at q2
  rw [k3] at q3
  rw [hp] at q4
  exact ⟨b, o, D[j], Al, cl, Ap, cp, rfl, hb, q0, q1, q2, q3, q4, ⟨Al, cl, rfl, h4⟩, ⟨Ap, cp, rfl, h5⟩, hjD, rfl⟩
/-- Where a store stands, a cell of a row may be set. -/
theorem own_ex_set {w : World} {B : Nat} {e : TypeId} {sz n : Nat} {v : Value} (h : ∃ xs, w.ownsRow B e sz v n xs) (g j : Nat) (u : Value) : ∃ xs, (w.setCell ⟨g, j, none⟩ u).ownsRow B e sz v n xs := by
  obtain ⟨xs, h⟩ := h
  have h' := h
  rcases h.2 with hn | ⟨g', cap, cur, rfl, hb, hg, rest⟩
  · exact ⟨xs, h.1, .inl hn⟩
  · by_cases he : g' = g
    · subst he
      exact ⟨_, (h'.stored j u).1⟩
    · exact ⟨xs, h.1, .inr ⟨g', cap, cur, rfl, hb, (heap_setCell_other w ⟨g, j, none⟩ g' u he).trans hg, rest⟩⟩
theorem strc_set (L : List Txt) (k : Nat) (t : Txt) : (L.set k t).flatMap strc = (L.flatMap strc).set k (.string ⟨t.toArray⟩) := by
  have h : ∀ L : List Txt, L.flatMap strc = L.map fun t => Value.string ⟨t.toArray⟩ := fun L => by
    induction L with
    | nil => rfl
    | cons t L ih => rw [List.flatMap_cons, ih]; rfl
  rw [h, h, List.map_set]
/-- What the store told of its variables, however it is spoilt. -/
structure VaI (wv w : World) (v : Value) (m : Nat) (vs : List (Txt × Value)) (M : List (Txt × List Txt)) : Prop where
  row : w.ownsRow wv.heap.size 34 2 v m (vs.flatMap valc)
  len : vs.length = m ∧ M.length = m
  each : ∀ i (h : i < vs.length) (h2 : i < M.length), vs[i].1 = M[i].1 ∧ ∃ A c, vs[i].2 = .slice A M[i].2.length c ∧ ∃ xs, w.ownsRow wv.heap.size 9 1 (.slice A M[i].2.length c) M[i].2.length xs
  bel : Below wv.heap.size wv w
theorem VaI.below {wv w w' : World} {v : Value} {m : Nat} {vs : List (Txt × Value)} {M : List (Txt × List Txt)} (h : VaI wv w v m vs M) (hb : Below w.heap.size w w') : VaI wv w' v m vs M :=
  ⟨own_below h.row hb, h.len, fun i h1 h2 => let ⟨e, A, c, e2, xs, hx⟩ := h.each i h1 h2; ⟨e, A, c, e2, xs, own_below hx hb⟩, h.bel.trans (hb.mono h.bel.size)⟩
theorem VaI.spoil {wv w : World} {v : Value} {m : Nat} {vs : List (Txt × Value)} {M : List (Txt × List Txt)} (h : VaI wv w v m vs M) {g : Nat} {cs : Array Value} (hg : Blk w g 9 cs) (hB : wv.heap.size ≤ g) (j : Nat) (u : Value) : VaI wv (w.setCell ⟨g, j, none⟩ u) v m vs M :=
  ⟨own_but h.row (But.set w j u) hg (by decide), h.len, fun i h1 h2 => let ⟨e, A, c, e2, hx⟩ := h.each i h1 h2; ⟨e, A, c, e2, own_ex_set hx g j u⟩, h.bel.trans ((But.set (B := g) w j u).below hB h.bel.size)⟩
theorem VaI.cells {wv w : World} {Av : Option Addr} {cv : Nat} {m i : Nat} {vs : List (Txt × Value)} {M : List (Txt × List Txt)} (h : VaI wv w (.slice Av m cv) m vs M) (hi : i < vs.length) :
    ∃ g, Av = some ⟨g, 0, none⟩ ∧ g < w.heap.size ∧ w.cell? ⟨g, i * 2, none⟩ = some (.string ⟨vs[i].1.toArray⟩) ∧ w.cell? ⟨g, i * 2 + 1, none⟩ = some vs[i].2 := by
  have hm : i < m := by rw [← h.len.1]; exact hi
  obtain ⟨A', c', he, h1, h2, h3, h4⟩ := RdL.of_own valc_len h.row h.len.1.symm
  obtain ⟨g, cap, hs, -⟩ := own_cell h.row (by omega)
  injection he with he1 _ _
  injection hs with hs1 _ _
  subst he1 hs1
  obtain ⟨b, o, hA, hb, hc⟩ := h3 i hi
  simp only [Option.some.injEq, Addr.mk.injEq, and_true] at hA
  obtain ⟨rfl, rfl⟩ := hA
  have q0 := hc 0 _ rfl
  have q1 := hc 1 _ rfl
  simp only [Nat.zero_add, Nat.add_zero] at q0 q1
  exact ⟨g, rfl, hb, q0, q1⟩
/-- What the store told of its functions' names, however it is spoilt. -/
structure FuI (wv w : World) (v : Value) (m : Nat) : Prop where
  row : ∃ L : List Txt, L.length = m ∧ (∀ t ∈ L, t.length ≤ maxLen) ∧ w.ownsRow wv.heap.size 9 1 v m (L.flatMap strc)
  bel : Below wv.heap.size wv w
theorem FuI.below {wv w w' : World} {v : Value} {m : Nat} (h : FuI wv w v m) (hb : Below w.heap.size w w') : FuI wv w' v m :=
  ⟨let ⟨L, h1, h2, h3⟩ := h.row; ⟨L, h1, h2, own_below h3 hb⟩, h.bel.trans (hb.mono h.bel.size)⟩
theorem FuI.node {wv w : World} {v : Value} {m : Nat} (h : FuI wv w v m) {g : Nat} {cs : Array Value} (hg : Blk w g 58 cs) (hB : wv.heap.size ≤ g) (j : Nat) (u : Value) : FuI wv (w.setCell ⟨g, j, none⟩ u) v m :=
  ⟨let ⟨L, h1, h2, h3⟩ := h.row; ⟨L, h1, h2, own_but h3 (But.set w j u) hg (by decide)⟩, h.bel.trans ((But.set (B := g) w j u).below hB h.bel.size)⟩
theorem FuI.spoil {wv w : World} {g c m k : Nat} (h : FuI wv w (.slice (some ⟨g, 0, none⟩) m c) m) (t : Txt) (ht : t.length ≤ maxLen) : FuI wv (w.setCell ⟨g, k, none⟩ (.string ⟨t.toArray⟩)) (.slice (some ⟨g, 0, none⟩) m c) m := by
  obtain ⟨⟨L, h1, h2, h3⟩, hb⟩ := h
  have hB : wv.heap.size ≤ g := (h3.lt g rfl).1
  refine ⟨⟨L.set k t, by simpa using h1, fun s hs => ?_, by rw [strc_set]; exact (h3.stored k _).1⟩, hb.trans ((But.set (B := g) w k _).below hB hb.size)⟩
  rcases List.mem_or_eq_of_mem_set hs with hs | rfl
  · exact h2 s hs
  · exact ht
theorem FuI.cells {wv w : World} {Av : Option Addr} {cv : Nat} {m i : Nat} (h : FuI wv w (.slice Av m cv) m) (hi : i < m) :
    ∃ g t, Av = some ⟨g, 0, none⟩ ∧ t.length ≤ maxLen ∧ w.cell? ⟨g, i, none⟩ = some (.string ⟨(t : Txt).toArray⟩) ∧ w.frozen? ⟨g, i, none⟩ = false := by
  obtain ⟨L, h1, h2, h3⟩ := h.row
  obtain ⟨g, cap, hs, -, hf, -⟩ := own_cell h3 (by omega)
  injection hs with hs1 _ _
  subst hs1
  have hiL : i < L.length := by omega
  have hc := h3.cellAt i (by omega)
  have he := flat_at strc_len L i hiL 0 _ rfl
  rw [Nat.mul_one, Nat.add_zero] at he
  rw [he] at hc
  exact ⟨g, L[i], rfl, h2 _ (List.getElem_mem _), hc, hf i⟩
set_option maxRecDepth 100000 in
set_option maxHeartbeats 8000000 in
theorem stoapart_walk (A0 : Option Addr) (c0 : Nat) (Da : List DoD) (A1 : Option Addr) (c1 : Nat) (Db : List DoD) (A2 : Option Addr) (c2 : Nat) (Dc : List DoD) (w : World) (ha : DoR w (.slice A0 Da.length c0) Da) (hb : DoR w (.slice A1 Db.length c1) Db) (hc : DoR w (.slice A2 Dc.length c2) Dc) :
    Calls Try.prog 4 #[.slice A0 Da.length c0, .slice A1 Db.length c1, .slice A2 Dc.length c2] w (Ret w (.bool true)) := by
  obtain ⟨na, hna⟩ : ∃ n, n = Da.length := ⟨_, rfl⟩
  obtain ⟨nb, hnb⟩ : ∃ n, n = Db.length := ⟨_, rfl⟩
  obtain ⟨nc, hnc⟩ : ∃ n, n = Dc.length := ⟨_, rfl⟩
  rw [← hna] at ha ⊢
  rw [← hnb] at hb ⊢
  rw [← hnc] at hc ⊢
  have HA := Lib.hid ha
  have HB := Lib.hid hb
  have HC := Lib.hid hc
  have HNA := Lib.hid hna
  have HNB := Lib.hid hnb
  have HNC := Lib.hid hnc
  clear ha hb hc hna hnb hnc
  go_enter Try.func4, Try.ntmps4
  go_wp2_with fail
  refine (first7_any w).mono ?_
  rintro e w1 ⟨rfl, hb⟩
  have HLA := Lib.hid (light_any (.slice A0 na c0) Da w1 (HA.out.below hb))
  have HLB := Lib.hid (light_any (.slice A1 nb c1) Db w1 (HB.out.below hb))
  have HLC := Lib.hid (light_any (.slice A2 nc c2) Dc w1 (HC.out.below hb))
  go_wp2_with fail
  refine HLA.out.mono ?_
  rintro e w2 ⟨ba, rfl, hfa, hw2⟩
  obtain rfl : w1 = w2 := hw2.symm
  clear hw2
  cases ba
  · go_wp2_with fail
    go_ret
    exact ⟨rfl, hb⟩
  have HFA := Lib.hid (hfa rfl)
  clear hfa HLA
  go_wp2_with fail
  refine HLB.out.mono ?_
  rintro e w2 ⟨ba, rfl, hfa, hw2⟩
  obtain rfl : w1 = w2 := hw2.symm
  clear hw2
  cases ba
  · go_wp2_with fail
    go_ret
    exact ⟨rfl, hb⟩
  have HFB := Lib.hid (hfa rfl)
  clear hfa HLB
  go_wp2_with fail
  refine HLC.out.mono ?_
  rintro e w2 ⟨ba, rfl, hfa, hw2⟩
  obtain rfl : w1 = w2 := hw2.symm
  clear hw2
  cases ba
  · go_wp2_with fail
    go_ret
    exact ⟨rfl, hb⟩
  have HFC := Lib.hid (hfa rfl)
  have HNW := Lib.hid (new_any (X := X0) (.slice none 0 0) [] w1 (ValR.nil w1) (by decide) (fun p h => (by cases h)) (fun b h => h.elim))
  have HB1 := Lib.hid hb
  clear hfa HLC hb
  go_wp2_with fail
  refine HNW.out.mono ?_
  rintro e w3 ⟨st, vb, fb, rfl, hI3, hst, hvb, hfb, hb3⟩
  obtain ⟨xb, hxb⟩ : ∃ xb, xb = w3.heap.size := ⟨_, rfl⟩
  obtain ⟨w4, hw4⟩ : ∃ w4, w4 = w3.alloc (.cells #[.slice none 0 0, .slice none 0 0, .slice none 0 0] 32) := ⟨_, rfl⟩
  have hb4 : Below w3.heap.size w3 w4 := by rw [hw4]; exact fst_below _
  have HGE := Lib.hid (show ∀ k ∈ [st, vb, fb, xb], w.heap.size ≤ k from fun k hk => by
    have := HB1.out.size
    have := hb3.size
    simp only [List.mem_cons, List.not_mem_nil, or_false] at hk
    omega)
  have HP4 := Lib.hid (show PlayI w w4 st vb fb xb 0 0 (newS []) [] from
    ⟨hI3.below hb4, DocI.start (by rw [hw4, hxb]; exact Blk.new _ _ _), ⟨sm_new, fun n l h => (by cases h), Nat.zero_le _, Nat.zero_le _, fun p h => (by cases h), fun p h => (by cases h)⟩, Nat.zero_le _, HB1.out.trans ((hb3.trans (hb4.mono hb3.size)).mono HB1.out.size)⟩)
  have HW4 := Lib.hid hw4
  have HXB := Lib.hid hxb
  clear hI3 hst hvb hfb hb3 hxb hw4 hb4 HB1 HNW
  have hna60 : na ≤ 60 := by rw [HNA.out]; exact HFA.out.1
  have hnb60 : nb ≤ 60 := by rw [HNB.out]; exact HFB.out.1
  have hnc60 : nc ≤ 60 := by rw [HNC.out]; exact HFC.out.1
  go_upto_region 6 with (fail)
  rw [← HXB.out, ← HW4.out]
  clear HXB HW4
  generalize newS [] = x0 at *
  go_wp2_with fail
  go_loopw [10] (fun i wr => ∃ j : Nat, j ≤ na ∧ i = .int .i64 j ∧ ∃ (N : Nat) (x : Sto) (F : List (Txt × List Nd)), Hid (PlayI w wr st vb fb xb N j x F)) (fun i _ => na - (intOf i).toNat)
  case atStart => exact ⟨0, Nat.zero_le _, rfl, _, _, _, HP4⟩
  case round =>
    obtain ⟨j, hj, rfl, N, x, F, HP⟩ := hrel
    clear HP4
    by_cases hlt : j < na
    · obtain ⟨b, o, d, Al, cl, Ap, cp, rfl, hbb, r0, r1, r2, r3, r4, hl, hp, hjD, hd⟩ := (HA.out.below HP.out.bel).at_ HNA.out hlt
      have HF1 := Lib.hid (show Few1 d from hd ▸ HFA.out.2 j hjD)
      have HTE := Lib.hid (tell_any st vb fb xb N x F x F d _ _ wr HP.out.sto HP.out.doc (HP.out.smt (by omega) HF1.out) hl hp)
      clear hl hp hd hjD hbb
      go_wp2_with fail
      refine HTE.out.mono ?_
      rintro e w6 ⟨b6, rfl, hI6, hb6, hsame⟩
      have HP6 := Lib.hid (show PlayI w w6 st vb fb xb (N + 1) (j + 1) (doS x d) (doF F d) from ⟨hI6, (hsame rfl rfl).2, smK_do HP.out.sm HF1.out, by have := HP.out.n; omega, HP.out.bel.trans (hb6.below HGE.out HP.out.bel.size)⟩)
      clear hI6 hb6 hsame HTE HP r0 r1 r2 r3 r4 HF1
      go_wp2_with fail
      go_roundw
      case rel => exact ⟨j + 1, by omega, by go_num, _, _, _, HP6⟩
      case measure => simp [intOf]; omega
    · obtain rfl : j = na := by omega
      have HCL := Lib.hid (clone_any st vb fb N j x F wr HP.out.sto HP.out.sm (by have := HP.out.n; omega) (by omega))
      go_wp2_with fail
      refine HCL.out.mono ?_
      rintro e w5 ⟨st2, vb2, fb2, N2, x2, F2, rfl, hI5, hsm5, hN5, hst, hvb, hfb, hb5⟩
      have HGE2 := Lib.hid (show ∀ k ∈ [st2, vb2, fb2], wr.heap.size ≤ k from fun k hk => by
        simp only [List.mem_cons, List.not_mem_nil, or_false] at hk
        omega)
      have HI5 := Lib.hid hI5
      have HS5 := Lib.hid hsm5
      have HB5 := Lib.hid hb5
      obtain ⟨wk, hwk⟩ : ∃ wk, wk = wr := ⟨_, rfl⟩
      rw [← hwk] at HGE2 HB5 HP
      clear hI5 hsm5 hst hvb hfb hb5 HCL
      go_wp2_with fail
      go_loopw [12] (fun i wr => ∃ q : Nat, q ≤ nb ∧ i = .int .i64 q ∧ ∃ (M : Nat) (y : Sto) (G : List (Txt × List Nd)), M ≤ 1000 + q ∧ Hid (StI X0 wr st2 vb2 fb2 M y G) ∧ Hid (SmK y G (j + q)) ∧ Hid (Below wk.heap.size wk wr)) (fun i _ => nb - (intOf i).toNat)
      case atStart => exact ⟨0, Nat.zero_le _, rfl, N2, _, _, by omega, HI5, HS5, HB5⟩
      case round =>
        obtain ⟨q, hq, rfl, M, y, G, hM, HI, HS, HBL⟩ := hrel
        clear HI5 HS5 HB5
        generalize wr = wj at *
        by_cases hlt2 : q < nb
        · obtain ⟨w6, hw6⟩ : ∃ w6, w6 = wj.alloc (.cells #[.slice none 0 0, .slice none 0 0, .slice none 0 0] 32) := ⟨_, rfl⟩
          have hb6 : Below wj.heap.size wj w6 := by rw [hw6]; exact fst_below _
          have HBW := Lib.hid (HP.out.bel.trans ((HBL.out.trans (hb6.mono HBL.out.size)).mono HP.out.bel.size))
          obtain ⟨b, o, d, Al, cl, Ap, cp, rfl, hbb, r0, r1, r2, r3, r4, hl, hp, hjD, hd⟩ := (HB.out.below HBW.out).at_ HNB.out hlt2
          have HF1 := Lib.hid (show Few1 d from hd ▸ HFB.out.2 q hjD)
          have HTE := Lib.hid (tell_any st2 vb2 fb2 wj.heap.size M y G (newS []) [] d _ _ w6 (HI.out.below hb6) (DocI.start (by rw [hw6]; exact Blk.new _ _ _))
            ⟨HS.out.s, sm_new, by omega, Nat.zero_le _, Nat.zero_le _, Nat.le_trans HF1.out.1 (by decide), Nat.le_trans HF1.out.2.1 (by decide), Nat.le_trans HF1.out.2.2 (by unfold maxLen; decide)⟩ hl hp)
          have HB6 := Lib.hid (HBL.out.trans (hb6.mono HBL.out.size))
          have HZ := Lib.hid HBL.out.size
          have HW6 := Lib.hid hw6
          rw [hw6] at r0 r1 r2 r3 r4
          clear hl hp hd hjD hbb hw6 hb6 HBW
          go_wp2_with fail
          rw [← HW6.out]
          refine HTE.out.mono ?_
          rintro e w7 ⟨b7, rfl, hI7, hb7, -⟩
          have HI7 := Lib.hid hI7
          have HS7 := Lib.hid (smK_do HS.out HF1.out)
          have HB7 := Lib.hid (HB6.out.trans (hb7.below (fun k hk => by
            have h1 := HZ.out
            have h2 := HGE2.out
            simp only [List.mem_cons, List.not_mem_nil, or_false] at hk h2
            rcases hk with rfl | rfl | rfl | rfl
            · exact h2 _ (.inl rfl)
            · exact h2 _ (.inr (.inl rfl))
            · exact h2 _ (.inr (.inr rfl))
            · exact h1) HB6.out.size))
          clear hI7 hb7 HTE r0 r1 r2 r3 r4 HW6 HB6 HZ HI HS HBL HF1
          go_wp2_with fail
          go_roundw
          case rel => exact ⟨q + 1, by omega, by go_num, M + 1, _, _, by omega, HI7, HS7, HB7⟩
          case measure => simp [intOf]; omega
        · obtain rfl : q = nb := by omega
          have HP7 := Lib.hid (HP.out.below HBL.out)
          have HVR := Lib.hid (vars_any st vb fb N x F wj HP7.out.sto HP7.out.sm.s (by have := HP7.out.n; omega) (by have := HP7.out.sm.v; omega) HP7.out.sm.k)
          have hm300 : x.vars.length ≤ 300 := by have := HP7.out.sm.v; omega
          have HVL := Lib.hid (show ∀ p ∈ x.vars, p.1.length ≤ maxLen ∧ p.2.length ≤ 1000000 from fun p hp => ⟨HP7.out.sm.k p hp, HP7.out.sm.s.vars p.1 p.2 (look_of_mem HP7.out.sto.sv hp)⟩)
          clear HI HS HBL HP HGE2 hwk hlt hlt2
          go_wp2_with fail
          refine HVR.out.mono ?_
          rintro e w7 ⟨v7, rfl, h7, hb7⟩
          obtain ⟨Av, cv, vs, rfl, ho7, ha7⟩ := h7
          obtain ⟨m, hm⟩ : ∃ m, m = x.vars.length := ⟨_, rfl⟩
          obtain ⟨M, hMM⟩ : ∃ M, M = x.vars := ⟨_, rfl⟩
          rw [← hm] at ho7 ⊢
          rw [← hm] at hm300
          rw [← hMM] at ha7 hm HVL
          have HVA := Lib.hid (show VaI wj w7 (.slice Av m cv) m vs M from ⟨ho7, ⟨ha7.1.trans hm.symm, hm.symm⟩, fun i h1 h2 => ⟨(ha7.2 i h1 h2).1, let ⟨A, c, e1, e2⟩ := (ha7.2 i h1 h2).2; ⟨A, c, e1, _, e2⟩⟩, hb7⟩)
          have HMM := Lib.hid hMM
          clear ho7 ha7 hb7 hm hMM HVR
          go_wp2_with fail
          go_loopw [14] (fun i wr => ∃ p : Nat, p ≤ m ∧ i = .int .i64 p ∧ Hid (VaI wj wr (.slice Av m cv) m vs M)) (fun i _ => m - (intOf i).toNat)
          case atStart => exact ⟨0, Nat.zero_le _, rfl, HVA⟩
          case round =>
            obtain ⟨p, hp, rfl, HV⟩ := hrel
            clear HVA
            generalize wr = wo at *
            by_cases hlt : p < m
            · have hpv : p < vs.length := by rw [HV.out.len.1]; exact hlt
              have hpM : p < M.length := by rw [HV.out.len.2]; exact hlt
              obtain ⟨hn, Ai, ci, hval, -⟩ := HV.out.each p hpv hpM
              have HNL := Lib.hid (show vs[p].1.length ≤ maxLen ∧ M[p].2.length ≤ 1000000 from by rw [hn]; exact HVL.out _ (List.getElem_mem _))
              have HROW := Lib.hid (show ∀ W, VaI wj W (.slice Av m cv) m vs M → ∃ xs, W.ownsRow wj.heap.size 9 1 (.slice Ai M[p].2.length ci) M[p].2.length xs from fun W h => by
                obtain ⟨_, A, c, e1, xs, e2⟩ := h.each p hpv hpM
                rw [hval] at e1
                injection e1 with e3 _ e4
                subst e3 e4
                exact ⟨xs, e2⟩)
              obtain ⟨g, rfl, hgl, z0, z1⟩ := HV.out.cells hpv
              have HCE := Lib.hid (show ∀ W, VaI wj W (.slice (some ⟨g, 0, none⟩) m cv) m vs M → W.cell? ⟨g, p * 2, none⟩ = some (.string ⟨vs[p].1.toArray⟩) ∧ W.cell? ⟨g, p * 2 + 1, none⟩ = some (.slice Ai M[p].2.length ci) from fun W h => by
                obtain ⟨g', he, _, q0, q1⟩ := h.cells hpv
                simp only [Option.some.injEq, Addr.mk.injEq, and_true] at he
                subst he
                rw [hval] at q1
                exact ⟨q0, q1⟩)
              have hl6 : M[p].2.length ≤ 1000000 := HNL.out.2
              have HN1 := Lib.hid HNL.out.1
              generalize M[p].2.length = li at *
              generalize vs[p].1 = nm at *
              clear hn hval z0 z1 hgl HNL hpv hpM
              go_wp2_with fail
              go_loopw [15] (fun i wr => ∃ k : Nat, k ≤ li ∧ i = .int .i64 k ∧ Hid (VaI wj wr (.slice (some ⟨g, 0, none⟩) m cv) m vs M)) (fun i _ => li - (intOf i).toNat)
              case atStart => exact ⟨0, Nat.zero_le _, rfl, HV⟩
              case round =>
                obtain ⟨k, hk, rfl, HK⟩ := hrel
                clear HV
                obtain ⟨z0, z1⟩ := HCE.out wr HK.out
                by_cases hlt3 : k < li
                · obtain ⟨xs, hrow⟩ := HROW.out wr HK.out
                  obtain ⟨g2, c2', he, hcell, hfro, _, cs, hblk⟩ := own_cell hrow (by omega)
                  injection he with he1 _ he3
                  subst he1
                  clear he3
                  obtain ⟨u0, hu⟩ := hcell k (by omega)
                  have fk := hfro k
                  have HN := Lib.hid (HK.out.spoil hblk (hrow.lt g2 rfl).1 k (.string ⟨#[115, 112, 111, 105, 108, 116]⟩))
                  clear hrow hcell hfro hblk HK
                  go_wp2_with fail
                  go_roundw
                  case rel => exact ⟨k + 1, by omega, by go_num, HN⟩
                  case measure => simp [intOf]; omega
                · obtain rfl : k = li := by omega
                  have HGT := Lib.hid (fun (W : World) (hW : Below wr.heap.size wr W) => get_any st vb fb N x F nm W (HP7.out.sto.below (HK.out.bel.trans (hW.mono HK.out.bel.size))) HP7.out.sm.s HN1.out)
                  have HGL := Lib.hid (sm_get7 HP7.out.sm.s nm)
                  obtain ⟨gx, hgx⟩ : ∃ g, g = getS x nm := ⟨_, rfl⟩
                  rw [← hgx] at HGT HGL
                  have l0 := Later.cell z0
                  go_upto_region 27 with (fail)
                  clear hgx z0 z1
                  refine wp_region_mid 8 _ rfl rfl (by kernel_rfl) (by kernel_rfl) (by kernel_rfl) ?_
                  apply EqGo.run
                  focus
                    kernel_rfl
                  focus
                    intro x K hK
                    go_wp2_with fail
                    first | exact hK x (Below.refl _ _) | exact Below.refl _ _
                  simp only [Act.put, List.setIfInBounds_toArray, List.set_cons_succ, List.set_cons_zero]
                  apply EqGo.run
                  focus
                    kernel_rfl
                  focus
                    intro x K hK
                    go_wp2_with fail
                    first | exact hK x (Below.refl _ _) | exact Below.refl _ _
                  simp only [Act.put, List.setIfInBounds_toArray, List.set_cons_succ, List.set_cons_zero]
                  apply EqGo.run
                  focus
                    kernel_rfl
                  focus
                    intro x K hK
                    go_wp2_with fail
                    first | exact hK x (Below.refl _ _) | exact Below.refl _ _
                  simp only [Act.put, List.setIfInBounds_toArray, List.set_cons_succ, List.set_cons_zero]
                  apply EqGo.run
                  focus
                    kernel_rfl
                  focus
                    intro x K hK
                    go_wp2_with fail
                    first | exact hK x (Below.refl _ _) | exact Below.refl _ _
                  simp only [Act.put, List.setIfInBounds_toArray, List.set_cons_succ, List.set_cons_zero]
                  apply EqGo.run
                  focus
                    kernel_rfl
                  focus
                    intro x K hK
                    go_wp2_with fail
                    first | exact hK x (Below.refl _ _) | exact Below.refl _ _
                  simp only [Act.put, List.setIfInBounds_toArray, List.set_cons_succ, List.set_cons_zero]
                  apply EqGo.run
                  focus
                    kernel_rfl
                  focus
                    intro x K hK
                    go_wp2_with fail
                    first | exact hK x (Below.refl _ _) | exact Below.refl _ _
                  simp only [Act.put, List.setIfInBounds_toArray, List.set_cons_succ, List.set_cons_zero]
                  apply EqGo.run
                  focus
                    kernel_rfl
                  focus
                    intro x K hK
                    go_wp2_with fail
                    first | exact hK x (Below.refl _ _) | exact Below.refl _ _
                  simp only [Act.put, List.setIfInBounds_toArray, List.set_cons_succ, List.set_cons_zero]
                  apply EqGo.run
                  focus
                    kernel_rfl
                  focus
                    intro x K hK
                    go_wp2_with fail
                    first | exact hK x (Below.refl _ _) | exact Below.refl _ _
                  simp only [Act.put, List.setIfInBounds_toArray, List.set_cons_succ, List.set_cons_zero]
                  intro z K hK
                  have HGY := Lib.hid (HGT.out z.val z.below)
                  have HKY := Lib.hid (HK.out.below z.below)
                  clear HGT HK l0
                  go_wp2_with fail
                  refine HGY.out.mono ?_
                  rintro e w8 ⟨v8, rfl, h8, hb8⟩
                  have HK8 := Lib.hid (HKY.out.below hb8)
                  have HR8 := Lib.hid (show ∃ xs, w8.ownsRow wj.heap.size 9 1 v8 gx.1.length xs from let ⟨A, c, h1, h2⟩ := h8; ⟨_, by rw [h1]; exact own_mono h2 HKY.out.bel.size⟩)
                  obtain ⟨A8, c8, rfl, -⟩ := h8
                  clear hb8 HGY HKY
                  refine hK _ _ ?_
                  clear hK K
                  simp only [Act.put, List.setIfInBounds_toArray, List.set_cons_succ, List.set_cons_zero]
                  apply EqGo.run
                  focus
                    kernel_rfl
                  focus
                    intro x K hK
                    go_wp2_with fail
                    first | exact hK x (Below.refl _ _) | exact Below.refl _ _
                  simp only [Act.put, List.setIfInBounds_toArray, List.set_cons_succ, List.set_cons_zero]
                  apply EqGo.run
                  focus
                    kernel_rfl
                  focus
                    intro x K hK
                    go_wp2_with fail
                    first | exact hK x (Below.refl _ _) | exact Below.refl _ _
                  simp only [Act.put, List.setIfInBounds_toArray, List.set_cons_succ, List.set_cons_zero]
                  apply EqGo.run
                  focus
                    kernel_rfl
                  focus
                    intro x K hK
                    go_wp2_with fail
                    first | exact hK x (Below.refl _ _) | exact Below.refl _ _
                  simp only [Act.put, List.setIfInBounds_toArray, List.set_cons_succ, List.set_cons_zero]
                  apply EqGo.run
                  focus
                    kernel_rfl
                  focus
                    intro x K hK
                    go_wp2_with fail
                    first | exact hK x (Below.refl _ _) | exact Below.refl _ _
                  simp only [Act.put, List.setIfInBounds_toArray, List.set_cons_succ, List.set_cons_zero]
                  apply EqGo.run
                  focus
                    kernel_rfl
                  focus
                    intro x K hK
                    go_wp2_with fail
                    first | exact hK x (Below.refl _ _) | exact Below.refl _ _
                  simp only [Act.put, List.setIfInBounds_toArray, List.set_cons_succ, List.set_cons_zero]
                  intro z2
                  replace HK8 := Lib.hid (HK8.out.below z2.below)
                  replace HR8 := Lib.hid (let ⟨xs, h⟩ := HR8.out; (⟨xs, own_below h z2.below⟩ : ∃ xs, z2.val.ownsRow wj.heap.size 9 1 (.slice A8 gx.1.length c8) gx.1.length xs))
                  generalize z2.val = w9 at *
                  clear z2
                  have hlg : gx.1.length ≤ 1000000 := HGL.out
                  generalize gx.1.length = lg at *
                  generalize gx.2 = bg at *
                  clear HGL hlt3
                  go_wp2_with fail
                  go_loopw [18] (fun i wr => ∃ q : Nat, q ≤ lg ∧ i = .int .i64 q ∧ Hid (VaI wj wr (.slice (some ⟨g, 0, none⟩) m cv) m vs M) ∧ Hid (∃ xs, wr.ownsRow wj.heap.size 9 1 (.slice A8 lg c8) lg xs)) (fun i _ => lg - (intOf i).toNat)
                  case atStart => exact ⟨0, Nat.zero_le _, rfl, HK8, HR8⟩
                  case round =>
                    obtain ⟨q, hq, rfl, HQ, HR⟩ := hrel
                    clear HK8 HR8
                    generalize wr = wq at *
                    by_cases hlt3 : q < lg
                    · obtain ⟨xs, hrow⟩ := HR.out
                      obtain ⟨g2, c2', he, hcell, hfro, _, cs, hblk⟩ := own_cell hrow (by omega)
                      injection he with he1 _ he3
                      subst he1
                      clear he3
                      obtain ⟨u0, hu⟩ := hcell q (by omega)
                      have fk := hfro q
                      have HN := Lib.hid (HQ.out.spoil hblk (hrow.lt g2 rfl).1 q (.string ⟨#[115, 112, 111, 105, 108, 116]⟩))
                      have HN2 := Lib.hid (own_ex_set HR.out g2 q (.string ⟨#[115, 112, 111, 105, 108, 116]⟩))
                      clear hrow hcell hfro hblk HQ HR
                      go_wp2_with fail
                      go_roundw
                      case rel => exact ⟨q + 1, by omega, by go_num, HN, HN2⟩
                      case measure => simp [intOf]; omega
                    · obtain rfl : q = lg := by omega
                      go_wp2_with fail
                      go_roundw
                      case rel => exact ⟨p + 1, by omega, by go_num, HQ⟩
                      case measure => simp [intOf]; omega
            · obtain rfl : p = m := by omega
              have HP8 := Lib.hid (HP7.out.below HV.out.bel)
              clear HP7 HV HVL HMM
              have HFR := Lib.hid (funs_any st vb fb N x F wo HP8.out.sto (by have := HP8.out.n; omega))
              go_wp2_with fail
              refine HFR.out.mono ?_
              rintro e w8 ⟨v8, rfl, ⟨Af, cf, rfl, hof⟩, hb8⟩
              rw [List.length_map] at hof ⊢
              obtain ⟨mf, hmf⟩ : ∃ mf, mf = F.length := ⟨_, rfl⟩
              rw [← hmf] at hof ⊢
              have hmf300 : mf ≤ 300 := by have := HP8.out.sm.g; omega
              have HFU := Lib.hid (show FuI wo w8 (.slice Af mf cf) mf from ⟨⟨_, by rw [List.length_map]; exact hmf.symm, fun t ht => by
                obtain ⟨p, hp, rfl⟩ := List.mem_map.1 ht
                exact HP8.out.sm.kf p hp, hof⟩, hb8⟩)
              clear hof hmf hb8 HFR
              go_wp2_with fail
              go_loopw [20] (fun i wr => ∃ i0 : Nat, i0 ≤ mf ∧ i = .int .i64 i0 ∧ Hid (FuI wo wr (.slice Af mf cf) mf)) (fun i _ => mf - (intOf i).toNat)
              case atStart => exact ⟨0, Nat.zero_le _, rfl, HFU⟩
              case round =>
                obtain ⟨i0, hi0, rfl, HF⟩ := hrel
                clear HFU
                generalize wr = wf at *
                by_cases hlt4 : i0 < mf
                · obtain ⟨gf, t, rfl, ht, z0, -⟩ := HF.out.cells hlt4
                  have HFN := Lib.hid (fun (W : World) (hW : Below wf.heap.size wf W) => fun_any st vb fb N x F t W (HP8.out.sto.below (HF.out.bel.trans (hW.mono HF.out.bel.size))) HP8.out.sm.f ht)
                  have HGL := Lib.hid (smf_get HP8.out.sm.f t)
                  obtain ⟨gx, hgx⟩ : ∃ g, g = getF F t := ⟨_, rfl⟩
                  rw [← hgx] at HFN HGL
                  have l0 := Later.cell z0
                  go_upto_region 36 with (fail)
                  clear hgx z0 ht
                  refine wp_region_mid 7 _ rfl rfl (by kernel_rfl) (by kernel_rfl) (by kernel_rfl) ?_
                  apply EqGo.run
                  focus
                    kernel_rfl
                  focus
                    intro x K hK
                    go_wp2_with fail
                    first | exact hK x (Below.refl _ _) | exact Below.refl _ _
                  simp only [Act.put, List.setIfInBounds_toArray, List.set_cons_succ, List.set_cons_zero]
                  apply EqGo.run
                  focus
                    kernel_rfl
                  focus
                    intro x K hK
                    go_wp2_with fail
                    first | exact hK x (Below.refl _ _) | exact Below.refl _ _
                  simp only [Act.put, List.setIfInBounds_toArray, List.set_cons_succ, List.set_cons_zero]
                  apply EqGo.run
                  focus
                    kernel_rfl
                  focus
                    intro x K hK
                    go_wp2_with fail
                    first | exact hK x (Below.refl _ _) | exact Below.refl _ _
                  simp only [Act.put, List.setIfInBounds_toArray, List.set_cons_succ, List.set_cons_zero]
                  apply EqGo.run
                  focus
                    kernel_rfl
                  focus
                    intro x K hK
                    go_wp2_with fail
                    first | exact hK x (Below.refl _ _) | exact Below.refl _ _
                  simp only [Act.put, List.setIfInBounds_toArray, List.set_cons_succ, List.set_cons_zero]
                  apply EqGo.run
                  focus
                    kernel_rfl
                  focus
                    intro x K hK
                    go_wp2_with fail
                    first | exact hK x (Below.refl _ _) | exact Below.refl _ _
                  simp only [Act.put, List.setIfInBounds_toArray, List.set_cons_succ, List.set_cons_zero]
                  apply EqGo.run
                  focus
                    kernel_rfl
                  focus
                    intro x K hK
                    go_wp2_with fail
                    first | exact hK x (Below.refl _ _) | exact Below.refl _ _
                  simp only [Act.put, List.setIfInBounds_toArray, List.set_cons_succ, List.set_cons_zero]
                  apply EqGo.run
                  focus
                    kernel_rfl
                  focus
                    intro x K hK
                    go_wp2_with fail
                    first | exact hK x (Below.refl _ _) | exact Below.refl _ _
                  simp only [Act.put, List.setIfInBounds_toArray, List.set_cons_succ, List.set_cons_zero]
                  intro z K hK
                  have HGY := Lib.hid (HFN.out z.val z.below)
                  have HKY := Lib.hid (HF.out.below z.below)
                  clear HFN HF l0
                  go_wp2_with fail
                  refine HGY.out.mono ?_
                  rintro e w9 ⟨v9, rfl, h9, hb9⟩
                  have HK9 := Lib.hid (HKY.out.below hb9)
                  have HR9 := Lib.hid (show ∃ xs, w9.ownsRow wo.heap.size 58 5 v9 gx.1.length xs from let ⟨A, c, h1, h2⟩ := h9; ⟨_, by rw [h1]; exact own_mono h2 HKY.out.bel.size⟩)
                  obtain ⟨A9, c9, rfl, -⟩ := h9
                  clear hb9 HGY HKY
                  refine hK _ _ ?_
                  clear hK K
                  simp only [Act.put, List.setIfInBounds_toArray, List.set_cons_succ, List.set_cons_zero]
                  apply EqGo.run
                  focus
                    kernel_rfl
                  focus
                    intro x K hK
                    go_wp2_with fail
                    first | exact hK x (Below.refl _ _) | exact Below.refl _ _
                  simp only [Act.put, List.setIfInBounds_toArray, List.set_cons_succ, List.set_cons_zero]
                  apply EqGo.run
                  focus
                    kernel_rfl
                  focus
                    intro x K hK
                    go_wp2_with fail
                    first | exact hK x (Below.refl _ _) | exact Below.refl _ _
                  simp only [Act.put, List.setIfInBounds_toArray, List.set_cons_succ, List.set_cons_zero]
                  apply EqGo.run
                  focus
                    kernel_rfl
                  focus
                    intro x K hK
                    go_wp2_with fail
                    first | exact hK x (Below.refl _ _) | exact Below.refl _ _
                  simp only [Act.put, List.setIfInBounds_toArray, List.set_cons_succ, List.set_cons_zero]
                  apply EqGo.run
                  focus
                    kernel_rfl
                  focus
                    intro x K hK
                    go_wp2_with fail
                    first | exact hK x (Below.refl _ _) | exact Below.refl _ _
                  simp only [Act.put, List.setIfInBounds_toArray, List.set_cons_succ, List.set_cons_zero]
                  apply EqGo.run
                  focus
                    kernel_rfl
                  focus
                    intro x K hK
                    go_wp2_with fail
                    first | exact hK x (Below.refl _ _) | exact Below.refl _ _
                  simp only [Act.put, List.setIfInBounds_toArray, List.set_cons_succ, List.set_cons_zero]
                  intro z2
                  replace HK9 := Lib.hid (HK9.out.below z2.below)
                  replace HR9 := Lib.hid (let ⟨xs, h⟩ := HR9.out; (⟨xs, own_below h z2.below⟩ : ∃ xs, z2.val.ownsRow wo.heap.size 58 5 (.slice A9 gx.1.length c9) gx.1.length xs))
                  generalize z2.val = w10 at *
                  clear z2
                  have hlg : gx.1.length ≤ 4000000 := HGL.out
                  generalize gx.1.length = lg at *
                  generalize gx.2 = bg at *
                  clear HGL
                  go_wp2_with fail
                  go_loopw [23] (fun i wr => ∃ q : Nat, q ≤ lg ∧ i = .int .i64 q ∧ Hid (FuI wo wr (.slice (some ⟨gf, 0, none⟩) mf cf) mf) ∧ Hid (∃ xs, wr.ownsRow wo.heap.size 58 5 (.slice A9 lg c9) lg xs)) (fun i _ => lg - (intOf i).toNat)
                  case atStart => exact ⟨0, Nat.zero_le _, rfl, HK9, HR9⟩
                  case round =>
                    obtain ⟨q, hq, rfl, HQ, HR⟩ := hrel
                    clear HK9 HR9
                    generalize wr = wq at *
                    by_cases hlt3 : q < lg
                    · obtain ⟨xs, hrow⟩ := HR.out
                      obtain ⟨g2, c2', he, hcell, hfro, _, cs, hblk⟩ := own_cell hrow (by omega)
                      injection he with he1 _ he3
                      subst he1
                      clear he3
                      obtain ⟨u0, hu⟩ := hcell (q * 5 + 4) (by omega)
                      have fk := hfro (q * 5 + 4)
                      have HN := Lib.hid (HQ.out.node hblk (hrow.lt g2 rfl).1 (q * 5 + 4) (.string ⟨#[115, 112, 111, 105, 108, 116]⟩))
                      have HN2 := Lib.hid (own_ex_set HR.out g2 (q * 5 + 4) (.string ⟨#[115, 112, 111, 105, 108, 116]⟩))
                      clear hrow hcell hfro hblk HQ HR
                      go_wp2_with fail
                      go_roundw
                      case rel => exact ⟨q + 1, by omega, by go_num, HN, HN2⟩
                      case measure => simp [intOf]; omega
                    · obtain rfl : q = lg := by omega
                      obtain ⟨gf', t2, he, -, z0, f0⟩ := HQ.out.cells hlt4
                      simp only [Option.some.injEq, Addr.mk.injEq, and_true] at he
                      subst he
                      have HN := Lib.hid (show FuI wo (wq.setCell ⟨gf, i0, none⟩ (.string ⟨#[115, 112, 111, 105, 108, 116]⟩)) (.slice (some ⟨gf, 0, none⟩) mf cf) mf from HQ.out.spoil [115, 112, 111, 105, 108, 116] (by unfold maxLen; decide))
                      clear HQ HR
                      go_wp2_with fail
                      go_roundw
                      case rel => exact ⟨i0 + 1, by omega, by go_num, HN⟩
                      case measure => simp [intOf]; omega
                · obtain rfl : i0 = mf := by omega
                  have HP9 := Lib.hid (HP8.out.below HF.out.bel)
                  clear HP8 HF hlt4
                  go_wp2_with fail
                  go_loopw [24] (fun i wr => ∃ q : Nat, q ≤ nc ∧ i = .int .i64 q ∧ ∃ (N : Nat) (x : Sto) (F : List (Txt × List Nd)), Hid (PlayI w wr st vb fb xb N (j + q) x F)) (fun i _ => nc - (intOf i).toNat)
                  case atStart => exact ⟨0, Nat.zero_le _, rfl, _, _, _, HP9⟩
                  case round =>
                    clear HP9
                    obtain ⟨q, hq, rfl, N', x', F', HP⟩ := hrel
                    generalize wr = wq at *
                    by_cases hlt : q < nc
                    · obtain ⟨b, o, d, Al, cl, Ap, cp, rfl, hbb, r0, r1, r2, r3, r4, hl, hp, hjD, hd⟩ := (HC.out.below HP.out.bel).at_ HNC.out hlt
                      have HF1 := Lib.hid (show Few1 d from hd ▸ HFC.out.2 q hjD)
                      have HTE := Lib.hid (tell_any st vb fb xb N' x' F' x' F' d _ _ wq HP.out.sto HP.out.doc (HP.out.smt (by omega) HF1.out) hl hp)
                      clear hl hp hd hjD hbb
                      go_wp2_with fail
                      refine HTE.out.mono ?_
                      rintro e w11 ⟨b6, rfl, hI6, hb6, hsame⟩
                      have HP6 := Lib.hid (show PlayI w w11 st vb fb xb (N' + 1) (j + (q + 1)) (doS x' d) (doF F' d) from ⟨hI6, (hsame rfl rfl).2, smK_do HP.out.sm HF1.out, by have := HP.out.n; omega, HP.out.bel.trans (hb6.below HGE.out HP.out.bel.size)⟩)
                      clear hI6 hb6 hsame HTE HP r0 r1 r2 r3 r4 HF1
                      go_wp2_with fail
                      go_roundw
                      case rel => exact ⟨q + 1, by omega, by go_num, _, _, _, HP6⟩
                      case measure => simp [intOf]; omega
                    · obtain rfl : q = nc := by omega
                      have HSA := Lib.hid (same7_any st vb fb xb N' x' F' [120] wq HP.out.sto HP.out.doc (HP.out.sma (by omega)) (len1 _))
                      go_wp2_with fail
                      refine HSA.out.mono ?_
                      rintro e w12 ⟨rfl, hb12⟩
                      have hbf := HP.out.bel.trans (hb12.mono HP.out.bel.size)
                      go_wp2_with fail
                      go_ret
                      exact ⟨rfl, hbf⟩
end Go.Proofs.Ytcnkljbckpkgcaa
