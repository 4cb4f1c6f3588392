/- Jumps made straight one by one, and a row's cells set; with no program in sight but a pass's memory. No condition. -/
import Derived.Test.YtpogngdddendiaaDoorGB
import Derived.Test.YtpogngdddendiaaDoorGQ
import Derived.Test.YtpogngdddendiaaDoorGC
import Derived.Handy
set_option linter.unusedVariables false
set_option linter.unusedSimpArgs false
namespace Go.Proofs.YtpogngdddendiaaDoor
open Go.RowKit

theorem Cyc.lt {X : List Ins} {i : Nat} (h : Cyc X i) : i < X.length := by
  apply Classical.byContradiction
  intro hi
  exact h.none (jmp_out (List.getElem?_eq_none (by omega)))
theorem isS_cycL {X : List Ins} {i : Nat} : isS (cycL X) i ↔ Cyc X i := by
  unfold isS cycL
  rw [List.getElem?_map]
  by_cases hi : i < X.length
  · rw [List.getElem?_range hi, Option.map_some, Option.some.injEq, cycB_iff]
  · rw [List.getElem?_eq_none (by simpa using hi), Option.map_none]
    exact ⟨fun h => (by cases h), fun h => absurd h.lt hi⟩
theorem EndN.congr {X X' : List Ins} {C C' : Nat → Prop} (hj : ∀ i, jmp X i = jmp X' i) (hc : ∀ i, C i ↔ C' i) {k i j : Nat} (h : EndN X C k i j) : EndN X' C' k i j := by
  induction h with
  | stop hs => exact .stop (by rw [← hj, ← hc]; exact hs)
  | go h1 h2 _ ih => exact .go (by rw [← hj]; exact h1) (by rw [← hc]; exact h2) ih
/-- The first places alone are straight. -/
noncomputable def strA (X : List Ins) (i : Nat) (x : Ins) : Ins := { x with a := if (placeA x.op && !cycB X i) = true then (endF X x.a.toNat : Int) else x.a }
theorem strI_A (X : List Ins) (i : Nat) (x : Ins) : strI X i x = { strA X i x with b := if placeB x.op = true then (endF X x.b.toNat : Int) else x.b } := rfl
theorem strI_pr {X : List Ins} (h : PR X) {i : Nat} {x : Ins} (hx : x ∈ X) : (placeA x.op = true → 0 ≤ (strI X i x).a ∧ (strI X i x).a < X.length) ∧ (placeB x.op = true → 0 ≤ (strI X i x).b ∧ (strI X i x).b < X.length) := by
  have hr := h.jr
  obtain ⟨h1, h2⟩ := h x hx
  unfold strI
  simp only
  constructor
  · intro hp
    have h3 := h1 hp
    by_cases hc : (placeA x.op && !cycB X i) = true
    · rw [if_pos hc]
      have := endF_lt hr (i := x.a.toNat) (by omega)
      omega
    · rw [if_neg hc]; exact h3
  · intro hp
    have h3 := h2 hp
    rw [if_pos hp]
    have := endF_lt hr (i := x.b.toNat) (by omega)
    omega
theorem strK_pr {X : List Ins} (h : PR X) (k : Nat) : PR (strK X k) := by
  intro y hy
  obtain ⟨i, hi⟩ := List.mem_iff_getElem?.1 hy
  rw [strK_get?] at hi
  rw [strK_length]
  cases hx : X[i]? with
  | none => rw [hx] at hi; cases hi
  | some x =>
    have hm := List.mem_of_getElem? hx
    rw [hx, Option.map_some] at hi
    injection hi with hi
    subst hi
    by_cases hk : i < k
    · rw [if_pos hk]
      exact strI_pr h hm
    · rw [if_neg hk]; exact h x hm
theorem setA_pr {X : List Ins} (h : PR X) (k : Nat) {x : Ins} (hx : X[k]? = some x) : PR ((strK X k).set k (strA X k x)) := by
  intro y hy
  rw [List.length_set, strK_length]
  rcases List.mem_or_eq_of_mem_set hy with hy | rfl
  · have := strK_pr h k y hy
    rwa [strK_length] at this
  · have hm := List.mem_of_getElem? hx
    exact ⟨fun hp => (strI_pr (i := k) h hm).1 hp, fun hp => (h x hm).2 hp⟩
theorem jmp_alike {X Y : List Ins} (hl : X.length = Y.length) (h : ∀ (i : Nat) (x y : Ins), X[i]? = some x → Y[i]? = some y → x.op = y.op ∧ x.a = y.a) (i : Nat) : jmp X i = jmp Y i := by
  by_cases hi : i < X.length
  · have hx := List.getElem?_eq_getElem hi
    have hy := List.getElem?_eq_getElem (show i < Y.length by omega)
    obtain ⟨h1, h2⟩ := h i _ _ hx hy
    rw [jmp_of hx, jmp_of hy, h1, h2]
  · rw [jmp_out (List.getElem?_eq_none (by omega)), jmp_out (List.getElem?_eq_none (by omega))]
theorem strK_at {X : List Ins} {k : Nat} {x : Ins} (hx : X[k]? = some x) : (strK X k)[k]? = some x := by
  rw [strK_get?, hx, Option.map_some, if_neg (Nat.lt_irrefl _)]
theorem strK_next {X : List Ins} {k : Nat} {x : Ins} (hx : X[k]? = some x) : strK X (k + 1) = (strK X k).set k (strI X k x) := by
  obtain ⟨h, e⟩ := List.getElem?_eq_some_iff.1 hx
  rw [strK_succ X k h, e]
/-- The first place's end, while the first k are straight; the second's. -/
theorem end_A {X : List Ins} (hr : JR X) (k : Nat) {i : Nat} (hi : i < X.length) : ∃ m, EndN (strK X k) (isS (cycL X)) m i (endF X i) := by
  obtain ⟨m, h⟩ := end_strK hr k hi
  exact ⟨m, h.congr (fun _ => rfl) (fun _ => isS_cycL.symm)⟩
theorem end_B {X : List Ins} (hr : JR X) (k : Nat) {x : Ins} (hx : X[k]? = some x) {i : Nat} (hi : i < X.length) : ∃ m, EndN ((strK X k).set k (strA X k x)) (isS (cycL X)) m i (endF X i) := by
  obtain ⟨m, h⟩ := end_strK hr (k + 1) hi
  refine ⟨m, h.congr (fun j => ?_) (fun _ => isS_cycL.symm)⟩
  rw [strK_next hx]
  refine jmp_alike (by simp) (fun q u v hu hv => ?_) j
  rw [List.getElem?_set] at hu hv
  by_cases hq : k = q
  · rw [if_pos hq] at hu hv
    split at hu
    · rename_i hlt
      rw [if_pos hlt] at hv
      injection hu with hu
      injection hv with hv
      subst hu hv
      exact ⟨rfl, rfl⟩
    · cases hu
  · rw [if_neg hq] at hu hv
    rw [hu] at hv
    injection hv with hv
    subst hv
    exact ⟨rfl, rfl⟩
theorem set_self {α : Type} {l : List α} {k : Nat} {x : α} (h : l[k]? = some x) : l.set k x = l := by
  obtain ⟨hk, rfl⟩ := List.getElem?_eq_some_iff.1 h
  exact List.set_getElem_self hk
theorem flat_set {α : Type} {enc : α → List Value} {sz : Nat} (he : ∀ x, (enc x).length = sz) : ∀ (l : List α) (k j : Nat) (x y : α) (u : Value), l[k]? = some x → j < sz → enc y = (enc x).set j u → (l.flatMap enc).set (k * sz + j) u = (l.set k y).flatMap enc
  | [], k, j, x, y, u, h, _, _ => by simp at h
  | z :: l, 0, j, x, y, u, h, hj, e => by
    simp at h
    subst h
    rw [List.flatMap_cons, List.set_cons_zero, List.flatMap_cons, Nat.zero_mul, Nat.zero_add, e, List.set_append_left _ _ (by rw [he]; exact hj)]
  | z :: l, k + 1, j, x, y, u, h, hj, e => by
    rw [List.flatMap_cons, List.set_cons_succ, List.flatMap_cons, ← flat_set he l k j x y u (by simpa using h) hj e, List.set_append_right _ _ (by rw [he, Nat.add_mul]; omega), he]
    congr 2
    rw [Nat.add_mul]
    omega
section
variable {w w' : World} {base g gl : Nat} {X : List Ins} {cl : Nat} {st : Int} {vc : Value}
/-- One cell of the row is set. -/
theorem PassW.store (h : PassW w base g gl X cl st vc) {k j : Nat} {x y : Ins} {u : Value} (hx : X[k]? = some x) (hj : j < 4) (hy : insc y = (insc x).set j u) : PassW (w.setCell ⟨gl, k * 4 + j, none⟩ u) base g gl (X.set k y) cl st vc := by
  obtain ⟨_, cur, hB⟩ := own_blk h.own
  have h1 := (World.ownsRow.stored h.own (k * 4 + j) u).1
  rw [flat_set (enc := insc) (sz := 4) (fun _ => rfl) X k j x y u hx hj hy] at h1
  refine ⟨h.hb, ?_, ?_⟩
  · rw [List.length_set]
    exact (But.set w _ u).blk h.blk (h.blk.apart hB (by decide))
  · rw [List.length_set]
    exact h1
theorem PassW.fro (h : PassW w base g gl X cl st vc) (j : Nat) : w.frozen? ⟨gl, j, none⟩ = false := h.own.frozenAt j
end
theorem own_but_ne {B : Nat} {w w' : World} {base : Nat} {e : TypeId} {sz n : Nat} {v : Value} {xs : List Value} (h : w.ownsRow base e sz v n xs) (hb : But B w w') (hne : v.ownBlock ≠ some B) : w'.ownsRow base e sz v n xs := by
  refine ⟨h.1, ?_⟩
  rcases h.2 with hn | ⟨g, cap, cur, rfl, hb', hg, rest⟩
  · exact .inl hn
  · refine .inr ⟨g, cap, cur, rfl, hb', ?_, rest⟩
    rw [hb.block g (Array.getElem?_eq_some_iff.1 hg).1 (fun e => hne (by rw [e]; rfl))]
    exact hg
end Go.Proofs.YtpogngdddendiaaDoor

/- The walk over (*thread.pass).straight: places are where jumps end. A bound on the length. -/
set_option linter.unusedVariables false
set_option linter.unusedSimpArgs false
namespace Go.Proofs.YtpogngdddendiaaDoor
open Go.RowKit

/-- It is straight; all but the row stands. -/
def Straight (w0 : World) (base g gl gc : Nat) (X : List Ins) (cl : Nat) (st : Int) (e : Ending) (w' : World) : Prop :=
  e = .returned (.tuple #[]) ∧ PassW w' base g gl (straightX X) cl st (.slice (some ⟨gc, 0, none⟩) X.length X.length) ∧ rowB w' base gc X.length (cycL X) ∧ But gl w0 w'
/-- A pass whose code is Y by now, of as many instructions as X. -/
structure StW (w0 w : World) (base g gl gc : Nat) (X Y : List Ins) (cl : Nat) (st : Int) : Prop where
  p : PassW w base g gl Y cl st (.slice (some ⟨gc, 0, none⟩) X.length X.length)
  c : rowB w base gc X.length (cycL X)
  but : But gl w0 w
  len : Y.length = X.length
  gl : gl < w0.heap.size
section
variable {w0 w w' : World} {base g gl gc : Nat} {X Y : List Ins} {cl : Nat} {st : Int}
theorem StW.below (h : StW w0 w base g gl gc X Y cl st) (hb : Below w.heap.size w w') : StW w0 w' base g gl gc X Y cl st :=
  ⟨h.p.below hb, h.c.below hb, h.but.trans (But.of hb), h.len, h.gl⟩
theorem StW.store (h : StW w0 w base g gl gc X Y cl st) {k j : Nat} {x y : Ins} {u : Value} (hx : Y[k]? = some x) (hj : j < 4) (hy : insc y = (insc x).set j u) : StW w0 (w.setCell ⟨gl, k * 4 + j, none⟩ u) base g gl gc X (Y.set k y) cl st := by
  obtain ⟨_, cur, hB⟩ := own_blk h.p.own
  have hb := But.set (B := gl) w (k * 4 + j) u
  exact ⟨h.p.store hx hj hy, h.c.but hb hB (by decide), h.but.trans hb, by rw [List.length_set]; exact h.len, h.gl⟩
/-- end, at such a code. -/
theorem StW.end_ (h : StW w0 w base g gl gc X Y cl st) (hp : PR Y) (hn : X.length ≤ 9000) {m i j : Nat} (hi : i < X.length) (hE : EndN Y (isS (cycL X)) m i j) :
    Calls Tryd.prog 98 #[.pointer (some ⟨g, 0, none⟩), .int .i64 i] w (Ret w (.int .i64 j)) :=
  tend_any g gl gc 0 cl X.length m i j Y (cycL X) st w (by rw [h.len]; have := h.p.blk; rwa [h.len] at this) h.p.rd h.c.rd (by rw [h.c.len, h.len]) hp (by rw [h.len]; exact hn) (by rw [h.len]; exact hi) hE
end
set_option maxRecDepth 100000 in
set_option maxHeartbeats 4000000 in
theorem tstr_any (base g gl cl gc : Nat) (X : List Ins) (st : Int) (w : World) (hw : PassW w base g gl X cl st (.slice (some ⟨gc, 0, none⟩) X.length X.length)) (hc : rowB w base gc X.length (cycL X)) (hp : PR X) (hn : X.length ≤ 9000) :
    Calls Tryd.prog 71 #[.pointer (some ⟨g, 0, none⟩)] w (Straight w base g gl gc X cl st) := by
  obtain ⟨m, hm⟩ : ∃ m, X.length = m := ⟨_, rfl⟩
  have HM := Lib.hid hm
  have HP := Lib.hid hp
  have HN := Lib.hid hn
  have HR := Lib.hid hp.jr
  have HS := Lib.hid (show StW w w base g gl gc X (strK X 0) cl st from by
    rw [strK_zero]
    obtain ⟨_, cur, hB⟩ := own_blk hw.own
    exact ⟨hw, hc, But.refl _ _, rfl, hB.lt⟩)
  have JC := Lib.hid (fun (op : Int) (W : World) => jumps_any op W)
  rw [hm] at hn
  clear hm hp hw hc
  have z0 := (HS).out.p.blk.cell 0
  have z2 := (HS).out.p.blk.cell 2
  simp only [List.getElem?_toArray, List.getElem?_cons_zero, List.getElem?_cons_succ] at z0 z2
  rw [(HS).out.len, HM.out] at z0
  rw [HM.out] at z2
  go_enter Tryd.func71, Tryd.ntmps71
  go_wp2_with fail
  clear z0 z2
  go_loopw [12] (fun v wr => ∃ k : Nat, k ≤ m ∧ v = .int .i64 k ∧ Hid (StW w wr base g gl gc X (strK X k) cl st)) (fun v _ => m - (intOf v).toNat)
  case atStart => exact ⟨0, Nat.zero_le _, rfl, HS⟩
  case round =>
    clear HS
    obtain ⟨k, hk, rfl, HS⟩ := hrel
    by_cases hlt : k < m
    · have HKX := Lib.hid (show k < X.length by rw [HM.out]; exact hlt)
      obtain ⟨x, hx⟩ := at_some HKX.out
      have HX := Lib.hid hx
      have hcell := (HS.out.p.rd.at_ (show k < (strK X k).length by rw [HS.out.len]; exact HKX.out)).2
      rw [getElem_of? (by rw [HS.out.len]; exact HKX.out) (strK_at hx)] at hcell
      have c0 := hcell 0 _ rfl
      have c1 := hcell 1 _ rfl
      have c2 := hcell 2 _ rfl
      have c3 := hcell 3 _ rfl
      simp only [Nat.add_zero, Nat.zero_add] at c0 c1 c2 c3
      have HPX := Lib.hid (HP.out x (List.mem_of_getElem? hx))
      clear hcell hx
      go_upto_region 3 with (fail)
      obtain ⟨W3, hW3⟩ : ∃ W3, W3 = wr.alloc (.cells #[.int .i64 x.op, .int .i64 x.a, .int .i64 x.b, .string ⟨x.s.toArray⟩] 36) := ⟨_, rfl⟩
      have hb3 : Below wr.heap.size wr W3 := by rw [hW3]; exact (Below.refl _ _).alloc (Nat.le_refl _) _
      have HBK := Lib.hid (show Blk W3 wr.heap.size 36 #[.int .i64 x.op, .int .i64 x.a, .int .i64 x.b, .string ⟨x.s.toArray⟩] by rw [hW3]; exact Blk.new wr _ _)
      have HGE := Lib.hid (show wr.heap.size ≠ gl from fun e => by have h1 := HS.out.gl; have h2 := HS.out.but.size; omega)
      replace HS := Lib.hid (HS.out.below hb3)
      rw [← hW3]
      generalize wr.heap.size = gx at *
      clear hb3 hW3 c0 c1 c2 c3
      have y0 := HBK.out.cell 0
      simp only [List.getElem?_toArray, List.getElem?_cons_zero] at y0
      go_wp2_with fail
      refine (JC.out x.op W3).mono ?_
      rintro e w4 ⟨rfl, hb4⟩
      replace HS := Lib.hid (HS.out.below hb4)
      replace HBK := Lib.hid (HBK.out.below hb4)
      obtain ⟨pa, hpa⟩ : ∃ pa, placeA x.op = pa := ⟨_, rfl⟩
      obtain ⟨pb, hpb⟩ : ∃ pb, placeB x.op = pb := ⟨_, rfl⟩
      rw [hpa, hpb]
      have HPA := Lib.hid hpa
      have HPB := Lib.hid hpb
      clear hb4 y0 hpa hpb
      obtain ⟨cb, hcb⟩ : ∃ cb, (cycL X)[k]? = some cb := ⟨_, List.getElem?_eq_getElem (by rw [HS.out.c.len]; exact HKX.out)⟩
      have d0 := HS.out.c.cell hcb
      have HCB := Lib.hid (show cycB X k = cb by
        unfold cycL at hcb
        rw [List.getElem?_map, List.getElem?_range HKX.out] at hcb
        exact Option.some.inj hcb)
      have z0 := (HS).out.p.blk.cell 0
      have z2 := (HS).out.p.blk.cell 2
      simp only [List.getElem?_toArray, List.getElem?_cons_zero, List.getElem?_cons_succ] at z0 z2
      rw [(HS).out.len, HM.out] at z0
      rw [HM.out] at z2
      clear hcb
      cases pa with
      | false =>
        have HAX := Lib.hid (show strA X k x = x by unfold strA; rw [HPA.out]; rfl)
        go_upto_region 6 with (fail)
        clear z0 z2 d0
        have HSA := Lib.hid (show strK X k = (strK X k).set k (strA X k x) by rw [HAX.out, set_self (strK_at HX.out)])
        rw [HSA.out] at HS
        clear HSA HAX
        cases pb with
        | false =>
          have HEI := Lib.hid (show (strK X k).set k (strI X k x) = (strK X k).set k (strA X k x) by
            rw [strI_A, HPB.out]; rfl)
          have HS3 := Lib.hid (show StW w _ base g gl gc X (strK X (k + 1)) cl st by rw [strK_next HX.out, HEI.out]; exact HS.out)
          clear HS
          go_wp2_with fail
          go_roundw
          case rel => exact ⟨k + 1, by omega, by go_num, HS3⟩
          case measure => simp [intOf]; omega
        | true =>
          obtain ⟨ib, hib⟩ : ∃ ib : Nat, x.b = ib := ⟨x.b.toNat, by have := HPX.out.2 HPB.out; omega⟩
          have HEX := Lib.hid (show ib < X.length by have := HPX.out.2 HPB.out; omega)
          obtain ⟨me, hme⟩ := end_B HR.out k HX.out HEX.out
          have HIB := Lib.hid hib
          have z0 := (HS).out.p.blk.cell 0
          have z2 := (HS).out.p.blk.cell 2
          simp only [List.getElem?_toArray, List.getElem?_cons_zero, List.getElem?_cons_succ] at z0 z2
          rw [(HS).out.len, HM.out] at z0
          rw [HM.out] at z2
          have y0 := HBK.out.cell 0
          have y1 := HBK.out.cell 1
          have y2 := HBK.out.cell 2
          simp only [List.getElem?_toArray, List.getElem?_cons_zero, List.getElem?_cons_succ] at y0 y1 y2
          rw [hib] at y2
          obtain ⟨je, hje⟩ : ∃ je, endF X ib = je := ⟨_, rfl⟩
          rw [hje] at hme
          have HJE := Lib.hid hje
          have HCA := Lib.hid (fun W (hb : Below _ _ W) => (HS.out.below hb).end_ (setA_pr HP.out k HX.out) HN.out HEX.out hme)
          clear hib hme hje
          go_upto_region 7 with (fail)
          apply wp_region_relA 12 [eqT _, eqT _, eqT _, eqT _, eqT _, eqT _, eqT _, eqT _, eqT _, eqT _, eqT _, eqT _] (by kernel_rfl) (by kernel_rfl) (by kernel_rfl) rfl
          focus
            refine ⟨?_, ?_⟩
            focus
              unfold opGoal
              rw [if_pos (by kernel_rfl)]
              intro x hb hd K hk
              clear hd
              go_wp2_with fail
              exact hk _ _ rfl trivial (Below.refl _ _)
            rintro _ rfl
            simp only [Act.put, List.setIfInBounds_toArray, List.set_cons_succ, List.set_cons_zero]
            refine ⟨?_, ?_⟩
            focus
              unfold opGoal
              rw [if_pos (by kernel_rfl)]
              intro x hb hd K hk
              clear hd
              go_wp2_with fail
              exact hk _ _ rfl trivial (Below.refl _ _)
            rintro _ rfl
            simp only [Act.put, List.setIfInBounds_toArray, List.set_cons_succ, List.set_cons_zero]
            refine ⟨?_, ?_⟩
            focus
              unfold opGoal
              rw [if_pos (by kernel_rfl)]
              intro x hb hd K hk
              clear hd
              go_wp2_with fail
              exact hk _ _ rfl trivial (Below.refl _ _)
            rintro _ rfl
            simp only [Act.put, List.setIfInBounds_toArray, List.set_cons_succ, List.set_cons_zero]
            refine ⟨?_, ?_⟩
            focus
              unfold opGoal
              rw [if_pos (by kernel_rfl)]
              intro x hb hd K hk
              clear hd
              go_wp2_with fail
              exact hk _ _ rfl trivial (Below.refl _ _)
            rintro _ rfl
            simp only [Act.put, List.setIfInBounds_toArray, List.set_cons_succ, List.set_cons_zero]
            refine ⟨?_, ?_⟩
            focus
              unfold opGoal
              rw [if_pos (by kernel_rfl)]
              intro x hb hd K hk
              clear hd
              have l0 := cell_keep hb z0
              go_wp2_with fail
              exact hk _ _ rfl trivial (Below.refl _ _)
            rintro _ rfl
            simp only [Act.put, List.setIfInBounds_toArray, List.set_cons_succ, List.set_cons_zero]
            refine ⟨?_, ?_⟩
            focus
              unfold opGoal
              rw [if_pos (by kernel_rfl)]
              intro x hb hd K hk
              clear hd
              go_wp2_with fail
              exact hk _ _ rfl trivial (Below.refl _ _)
            rintro _ rfl
            simp only [Act.put, List.setIfInBounds_toArray, List.set_cons_succ, List.set_cons_zero]
            refine ⟨?_, ?_⟩
            focus
              unfold opGoal
              rw [if_pos (by kernel_rfl)]
              intro x hb hd K hk
              clear hd
              go_wp2_with fail
              exact hk _ _ rfl trivial (Below.refl _ _)
            rintro _ rfl
            simp only [Act.put, List.setIfInBounds_toArray, List.set_cons_succ, List.set_cons_zero]
            refine ⟨?_, ?_⟩
            focus
              unfold opGoal
              rw [if_pos (by kernel_rfl)]
              intro x hb hd K hk
              clear hd
              go_wp2_with fail
              exact hk _ _ rfl trivial (Below.refl _ _)
            rintro _ rfl
            simp only [Act.put, List.setIfInBounds_toArray, List.set_cons_succ, List.set_cons_zero]
            refine ⟨?_, ?_⟩
            focus
              unfold opGoal
              rw [if_pos (by kernel_rfl)]
              intro x hb hd K hk
              clear hd
              have l0 := cell_keep hb y2
              go_wp2_with fail
              exact hk _ _ rfl trivial (Below.refl _ _)
            rintro _ rfl
            simp only [Act.put, List.setIfInBounds_toArray, List.set_cons_succ, List.set_cons_zero]
            refine ⟨?_, ?_⟩
            focus
              unfold opGoal
              rw [if_pos (by kernel_rfl)]
              intro x hb hd K hk
              clear hd
              go_wp2_with fail
              refine (HCA.out x hb).mono ?_
              rintro e x' ⟨rfl, hb'⟩
              exact hk _ _ rfl trivial hb'
            rintro _ rfl
            simp only [Act.put, List.setIfInBounds_toArray, List.set_cons_succ, List.set_cons_zero]
            refine ⟨?_, ?_⟩
            focus
              unfold opGoal
              rw [if_pos (by kernel_rfl)]
              intro x hb hd K hk
              clear hd
              go_wp2_with fail
              exact hk _ _ rfl trivial (Below.refl _ _)
            rintro _ rfl
            simp only [Act.put, List.setIfInBounds_toArray, List.set_cons_succ, List.set_cons_zero]
            refine ⟨?_, ?_⟩
            focus
              unfold opGoal
              rw [if_pos (by kernel_rfl)]
              intro x hb hd K hk
              clear hd
              go_wp2_with fail
              exact hk _ _ rfl trivial (Below.refl _ _)
            rintro _ rfl
            simp only [Act.put, List.setIfInBounds_toArray, List.set_cons_succ, List.set_cons_zero]
            intro x2 hbx hf
            simp only [List.drop_succ_cons, List.drop_zero]
            clear hf HCA z0 z2 y0 y1 y2
            replace HS := Lib.hid (HS.out.below hbx)
            replace HBK := Lib.hid (HBK.out.below hbx)
            clear hbx
            obtain ⟨vq, hcq⟩ : ∃ v, x2.cell? ⟨gl, k * 4 + 2, none⟩ = some v := ⟨_, by
              have h := (HS.out.p.rd.at_ (show k < _ by rw [HS.out.len]; exact HKX.out)).2 2 _ rfl
              rw [Nat.zero_add] at h
              exact h⟩
            have fq := HS.out.p.fro (k * 4 + 2)
            have HS2 := Lib.hid (HS.out.store (y := strI X k x) (List.getElem?_set_self (by rw [strK_length]; exact HKX.out)) (show 2 < 4 by decide) (u := .int .i64 (je : Int)) (by
              rw [strI_A, HPB.out, HIB.out, Int.toNat_natCast, HJE.out]; rfl))
            rw [List.set_set] at HS2
            have HEI := Lib.hid (rfl : (strK X k).set k (strI X k x) = (strK X k).set k (strI X k x))
            replace HS := HS2
            clear HS2
            go_upto_region 8 with (fail)
            generalize x2.setCell ⟨gl, k * 4 + 2, none⟩ (.int .i64 (je : Int)) = wz at *
            clear hcq fq
            have HS3 := Lib.hid (show StW w _ base g gl gc X (strK X (k + 1)) cl st by rw [strK_next HX.out, HEI.out]; exact HS.out)
            clear HS
            go_wp2_with fail
            go_roundw
            case rel => exact ⟨k + 1, by omega, by go_num, HS3⟩
            case measure => simp [intOf]; omega
      | true =>
        cases cb with
        | true =>
          have HAX := Lib.hid (show strA X k x = x by unfold strA; rw [HPA.out, HCB.out]; rfl)
          go_upto_region 6 with (fail)
          clear z0 z2 d0
          have HSA := Lib.hid (show strK X k = (strK X k).set k (strA X k x) by rw [HAX.out, set_self (strK_at HX.out)])
          rw [HSA.out] at HS
          clear HSA HAX
          cases pb with
          | false =>
            have HEI := Lib.hid (show (strK X k).set k (strI X k x) = (strK X k).set k (strA X k x) by
              rw [strI_A, HPB.out]; rfl)
            have HS3 := Lib.hid (show StW w _ base g gl gc X (strK X (k + 1)) cl st by rw [strK_next HX.out, HEI.out]; exact HS.out)
            clear HS
            go_wp2_with fail
            go_roundw
            case rel => exact ⟨k + 1, by omega, by go_num, HS3⟩
            case measure => simp [intOf]; omega
          | true =>
            obtain ⟨ib, hib⟩ : ∃ ib : Nat, x.b = ib := ⟨x.b.toNat, by have := HPX.out.2 HPB.out; omega⟩
            have HEX := Lib.hid (show ib < X.length by have := HPX.out.2 HPB.out; omega)
            obtain ⟨me, hme⟩ := end_B HR.out k HX.out HEX.out
            have HIB := Lib.hid hib
            have z0 := (HS).out.p.blk.cell 0
            have z2 := (HS).out.p.blk.cell 2
            simp only [List.getElem?_toArray, List.getElem?_cons_zero, List.getElem?_cons_succ] at z0 z2
            rw [(HS).out.len, HM.out] at z0
            rw [HM.out] at z2
            have y0 := HBK.out.cell 0
            have y1 := HBK.out.cell 1
            have y2 := HBK.out.cell 2
            simp only [List.getElem?_toArray, List.getElem?_cons_zero, List.getElem?_cons_succ] at y0 y1 y2
            rw [hib] at y2
            obtain ⟨je, hje⟩ : ∃ je, endF X ib = je := ⟨_, rfl⟩
            rw [hje] at hme
            have HJE := Lib.hid hje
            have HCA := Lib.hid (fun W (hb : Below _ _ W) => (HS.out.below hb).end_ (setA_pr HP.out k HX.out) HN.out HEX.out hme)
            clear hib hme hje
            go_upto_region 7 with (fail)
            apply wp_region_relA 12 [eqT _, eqT _, eqT _, eqT _, eqT _, eqT _, eqT _, eqT _, eqT _, eqT _, eqT _, eqT _] (by kernel_rfl) (by kernel_rfl) (by kernel_rfl) rfl
            focus
              refine ⟨?_, ?_⟩
              focus
                unfold opGoal
                rw [if_pos (by kernel_rfl)]
                intro x hb hd K hk
                clear hd
                go_wp2_with fail
                exact hk _ _ rfl trivial (Below.refl _ _)
              rintro _ rfl
              simp only [Act.put, List.setIfInBounds_toArray, List.set_cons_succ, List.set_cons_zero]
              refine ⟨?_, ?_⟩
              focus
                unfold opGoal
                rw [if_pos (by kernel_rfl)]
                intro x hb hd K hk
                clear hd
                go_wp2_with fail
                exact hk _ _ rfl trivial (Below.refl _ _)
              rintro _ rfl
              simp only [Act.put, List.setIfInBounds_toArray, List.set_cons_succ, List.set_cons_zero]
              refine ⟨?_, ?_⟩
              focus
                unfold opGoal
                rw [if_pos (by kernel_rfl)]
                intro x hb hd K hk
                clear hd
                go_wp2_with fail
                exact hk _ _ rfl trivial (Below.refl _ _)
              rintro _ rfl
              simp only [Act.put, List.setIfInBounds_toArray, List.set_cons_succ, List.set_cons_zero]
              refine ⟨?_, ?_⟩
              focus
                unfold opGoal
                rw [if_pos (by kernel_rfl)]
                intro x hb hd K hk
                clear hd
                go_wp2_with fail
                exact hk _ _ rfl trivial (Below.refl _ _)
              rintro _ rfl
              simp only [Act.put, List.setIfInBounds_toArray, List.set_cons_succ, List.set_cons_zero]
              refine ⟨?_, ?_⟩
              focus
                unfold opGoal
                rw [if_pos (by kernel_rfl)]
                intro x hb hd K hk
                clear hd
                have l0 := cell_keep hb z0
                go_wp2_with fail
                exact hk _ _ rfl trivial (Below.refl _ _)
              rintro _ rfl
              simp only [Act.put, List.setIfInBounds_toArray, List.set_cons_succ, List.set_cons_zero]
              refine ⟨?_, ?_⟩
              focus
                unfold opGoal
                rw [if_pos (by kernel_rfl)]
                intro x hb hd K hk
                clear hd
                go_wp2_with fail
                exact hk _ _ rfl trivial (Below.refl _ _)
              rintro _ rfl
              simp only [Act.put, List.setIfInBounds_toArray, List.set_cons_succ, List.set_cons_zero]
              refine ⟨?_, ?_⟩
              focus
                unfold opGoal
                rw [if_pos (by kernel_rfl)]
                intro x hb hd K hk
                clear hd
                go_wp2_with fail
                exact hk _ _ rfl trivial (Below.refl _ _)
              rintro _ rfl
              simp only [Act.put, List.setIfInBounds_toArray, List.set_cons_succ, List.set_cons_zero]
              refine ⟨?_, ?_⟩
              focus
                unfold opGoal
                rw [if_pos (by kernel_rfl)]
                intro x hb hd K hk
                clear hd
                go_wp2_with fail
                exact hk _ _ rfl trivial (Below.refl _ _)
              rintro _ rfl
              simp only [Act.put, List.setIfInBounds_toArray, List.set_cons_succ, List.set_cons_zero]
              refine ⟨?_, ?_⟩
              focus
                unfold opGoal
                rw [if_pos (by kernel_rfl)]
                intro x hb hd K hk
                clear hd
                have l0 := cell_keep hb y2
                go_wp2_with fail
                exact hk _ _ rfl trivial (Below.refl _ _)
              rintro _ rfl
              simp only [Act.put, List.setIfInBounds_toArray, List.set_cons_succ, List.set_cons_zero]
              refine ⟨?_, ?_⟩
              focus
                unfold opGoal
                rw [if_pos (by kernel_rfl)]
                intro x hb hd K hk
                clear hd
                go_wp2_with fail
                refine (HCA.out x hb).mono ?_
                rintro e x' ⟨rfl, hb'⟩
                exact hk _ _ rfl trivial hb'
              rintro _ rfl
              simp only [Act.put, List.setIfInBounds_toArray, List.set_cons_succ, List.set_cons_zero]
              refine ⟨?_, ?_⟩
              focus
                unfold opGoal
                rw [if_pos (by kernel_rfl)]
                intro x hb hd K hk
                clear hd
                go_wp2_with fail
                exact hk _ _ rfl trivial (Below.refl _ _)
              rintro _ rfl
              simp only [Act.put, List.setIfInBounds_toArray, List.set_cons_succ, List.set_cons_zero]
              refine ⟨?_, ?_⟩
              focus
                unfold opGoal
                rw [if_pos (by kernel_rfl)]
                intro x hb hd K hk
                clear hd
                go_wp2_with fail
                exact hk _ _ rfl trivial (Below.refl _ _)
              rintro _ rfl
              simp only [Act.put, List.setIfInBounds_toArray, List.set_cons_succ, List.set_cons_zero]
              intro x2 hbx hf
              simp only [List.drop_succ_cons, List.drop_zero]
              clear hf HCA z0 z2 y0 y1 y2
              replace HS := Lib.hid (HS.out.below hbx)
              replace HBK := Lib.hid (HBK.out.below hbx)
              clear hbx
              obtain ⟨vq, hcq⟩ : ∃ v, x2.cell? ⟨gl, k * 4 + 2, none⟩ = some v := ⟨_, by
                have h := (HS.out.p.rd.at_ (show k < _ by rw [HS.out.len]; exact HKX.out)).2 2 _ rfl
                rw [Nat.zero_add] at h
                exact h⟩
              have fq := HS.out.p.fro (k * 4 + 2)
              have HS2 := Lib.hid (HS.out.store (y := strI X k x) (List.getElem?_set_self (by rw [strK_length]; exact HKX.out)) (show 2 < 4 by decide) (u := .int .i64 (je : Int)) (by
                rw [strI_A, HPB.out, HIB.out, Int.toNat_natCast, HJE.out]; rfl))
              rw [List.set_set] at HS2
              have HEI := Lib.hid (rfl : (strK X k).set k (strI X k x) = (strK X k).set k (strI X k x))
              replace HS := HS2
              clear HS2
              go_upto_region 8 with (fail)
              generalize x2.setCell ⟨gl, k * 4 + 2, none⟩ (.int .i64 (je : Int)) = wz at *
              clear hcq fq
              have HS3 := Lib.hid (show StW w _ base g gl gc X (strK X (k + 1)) cl st by rw [strK_next HX.out, HEI.out]; exact HS.out)
              clear HS
              go_wp2_with fail
              go_roundw
              case rel => exact ⟨k + 1, by omega, by go_num, HS3⟩
              case measure => simp [intOf]; omega
        | false =>
          obtain ⟨ia, hia⟩ : ∃ ia : Nat, x.a = ia := ⟨x.a.toNat, by have := HPX.out.1 HPA.out; omega⟩
          have HEX := Lib.hid (show ia < X.length by have := HPX.out.1 HPA.out; omega)
          obtain ⟨me, hme⟩ := end_A HR.out k HEX.out
          have HIA := Lib.hid hia
          have y0 := HBK.out.cell 0
          have y1 := HBK.out.cell 1
          have y2 := HBK.out.cell 2
          simp only [List.getElem?_toArray, List.getElem?_cons_zero, List.getElem?_cons_succ] at y0 y1 y2
          rw [hia] at y1
          obtain ⟨je, hje⟩ : ∃ je, endF X ia = je := ⟨_, rfl⟩
          rw [hje] at hme
          have HJE := Lib.hid hje
          have HCA := Lib.hid (fun W (hb : Below w4.heap.size w4 W) => (HS.out.below hb).end_ (strK_pr HP.out k) HN.out HEX.out hme)
          clear hia hme hje
          go_upto_region 5 with (fail)
          clear d0
          apply wp_region_relA 12 [eqT _, eqT _, eqT _, eqT _, eqT _, eqT _, eqT _, eqT _, eqT _, eqT _, eqT _, eqT _] (by kernel_rfl) (by kernel_rfl) (by kernel_rfl) rfl
          focus
            refine ⟨?_, ?_⟩
            focus
              unfold opGoal
              rw [if_pos (by kernel_rfl)]
              intro x hb hd K hk
              clear hd
              go_wp2_with fail
              exact hk _ _ rfl trivial (Below.refl _ _)
            rintro _ rfl
            simp only [Act.put, List.setIfInBounds_toArray, List.set_cons_succ, List.set_cons_zero]
            refine ⟨?_, ?_⟩
            focus
              unfold opGoal
              rw [if_pos (by kernel_rfl)]
              intro x hb hd K hk
              clear hd
              go_wp2_with fail
              exact hk _ _ rfl trivial (Below.refl _ _)
            rintro _ rfl
            simp only [Act.put, List.setIfInBounds_toArray, List.set_cons_succ, List.set_cons_zero]
            refine ⟨?_, ?_⟩
            focus
              unfold opGoal
              rw [if_pos (by kernel_rfl)]
              intro x hb hd K hk
              clear hd
              go_wp2_with fail
              exact hk _ _ rfl trivial (Below.refl _ _)
            rintro _ rfl
            simp only [Act.put, List.setIfInBounds_toArray, List.set_cons_succ, List.set_cons_zero]
            refine ⟨?_, ?_⟩
            focus
              unfold opGoal
              rw [if_pos (by kernel_rfl)]
              intro x hb hd K hk
              clear hd
              go_wp2_with fail
              exact hk _ _ rfl trivial (Below.refl _ _)
            rintro _ rfl
            simp only [Act.put, List.setIfInBounds_toArray, List.set_cons_succ, List.set_cons_zero]
            refine ⟨?_, ?_⟩
            focus
              unfold opGoal
              rw [if_pos (by kernel_rfl)]
              intro x hb hd K hk
              clear hd
              have l0 := cell_keep hb z0
              go_wp2_with fail
              exact hk _ _ rfl trivial (Below.refl _ _)
            rintro _ rfl
            simp only [Act.put, List.setIfInBounds_toArray, List.set_cons_succ, List.set_cons_zero]
            refine ⟨?_, ?_⟩
            focus
              unfold opGoal
              rw [if_pos (by kernel_rfl)]
              intro x hb hd K hk
              clear hd
              go_wp2_with fail
              exact hk _ _ rfl trivial (Below.refl _ _)
            rintro _ rfl
            simp only [Act.put, List.setIfInBounds_toArray, List.set_cons_succ, List.set_cons_zero]
            refine ⟨?_, ?_⟩
            focus
              unfold opGoal
              rw [if_pos (by kernel_rfl)]
              intro x hb hd K hk
              clear hd
              go_wp2_with fail
              exact hk _ _ rfl trivial (Below.refl _ _)
            rintro _ rfl
            simp only [Act.put, List.setIfInBounds_toArray, List.set_cons_succ, List.set_cons_zero]
            refine ⟨?_, ?_⟩
            focus
              unfold opGoal
              rw [if_pos (by kernel_rfl)]
              intro x hb hd K hk
              clear hd
              go_wp2_with fail
              exact hk _ _ rfl trivial (Below.refl _ _)
            rintro _ rfl
            simp only [Act.put, List.setIfInBounds_toArray, List.set_cons_succ, List.set_cons_zero]
            refine ⟨?_, ?_⟩
            focus
              unfold opGoal
              rw [if_pos (by kernel_rfl)]
              intro x hb hd K hk
              clear hd
              have l0 := cell_keep hb y1
              go_wp2_with fail
              exact hk _ _ rfl trivial (Below.refl _ _)
            rintro _ rfl
            simp only [Act.put, List.setIfInBounds_toArray, List.set_cons_succ, List.set_cons_zero]
            refine ⟨?_, ?_⟩
            focus
              unfold opGoal
              rw [if_pos (by kernel_rfl)]
              intro x hb hd K hk
              clear hd
              go_wp2_with fail
              refine (HCA.out x hb).mono ?_
              rintro e x' ⟨rfl, hb'⟩
              exact hk _ _ rfl trivial hb'
            rintro _ rfl
            simp only [Act.put, List.setIfInBounds_toArray, List.set_cons_succ, List.set_cons_zero]
            refine ⟨?_, ?_⟩
            focus
              unfold opGoal
              rw [if_pos (by kernel_rfl)]
              intro x hb hd K hk
              clear hd
              go_wp2_with fail
              exact hk _ _ rfl trivial (Below.refl _ _)
            rintro _ rfl
            simp only [Act.put, List.setIfInBounds_toArray, List.set_cons_succ, List.set_cons_zero]
            refine ⟨?_, ?_⟩
            focus
              unfold opGoal
              rw [if_pos (by kernel_rfl)]
              intro x hb hd K hk
              clear hd
              go_wp2_with fail
              exact hk _ _ rfl trivial (Below.refl _ _)
            rintro _ rfl
            simp only [Act.put, List.setIfInBounds_toArray, List.set_cons_succ, List.set_cons_zero]
            intro x2 hbx hf
            simp only [List.drop_succ_cons, List.drop_zero]
            clear hf HCA z0 z2 y0 y1 y2
            replace HS := Lib.hid (HS.out.below hbx)
            replace HBK := Lib.hid (HBK.out.below hbx)
            clear hbx
            obtain ⟨vq, hcq⟩ : ∃ v, x2.cell? ⟨gl, k * 4 + 1, none⟩ = some v := ⟨_, by
              have h := (HS.out.p.rd.at_ (show k < _ by rw [HS.out.len]; exact HKX.out)).2 1 _ rfl
              rw [Nat.zero_add] at h
              exact h⟩
            have fq := HS.out.p.fro (k * 4 + 1)
            have HS2 := Lib.hid (HS.out.store (y := strA X k x) (strK_at HX.out) (show 1 < 4 by decide) (u := .int .i64 (je : Int)) (by
              unfold strA
              rw [HPA.out, HCB.out, HIA.out, Int.toNat_natCast, HJE.out]; rfl))
            replace HS := HS2
            clear HS2
            have HBK2 := Lib.hid ((But.set x2 (k * 4 + 1) (.int .i64 (je : Int))).blk HBK.out HGE.out)
            replace HBK := HBK2
            clear HBK2
            go_upto_region 6 with (fail)
            generalize x2.setCell ⟨gl, k * 4 + 1, none⟩ (.int .i64 (je : Int)) = wy at *
            clear hcq fq HEX HIA HJE me
            cases pb with
            | false =>
              have HEI := Lib.hid (show (strK X k).set k (strI X k x) = (strK X k).set k (strA X k x) by
                rw [strI_A, HPB.out]; rfl)
              have HS3 := Lib.hid (show StW w _ base g gl gc X (strK X (k + 1)) cl st by rw [strK_next HX.out, HEI.out]; exact HS.out)
              clear HS
              go_wp2_with fail
              go_roundw
              case rel => exact ⟨k + 1, by omega, by go_num, HS3⟩
              case measure => simp [intOf]; omega
            | true =>
              obtain ⟨ib, hib⟩ : ∃ ib : Nat, x.b = ib := ⟨x.b.toNat, by have := HPX.out.2 HPB.out; omega⟩
              have HEX := Lib.hid (show ib < X.length by have := HPX.out.2 HPB.out; omega)
              obtain ⟨me, hme⟩ := end_B HR.out k HX.out HEX.out
              have HIB := Lib.hid hib
              have z0 := (HS).out.p.blk.cell 0
              have z2 := (HS).out.p.blk.cell 2
              simp only [List.getElem?_toArray, List.getElem?_cons_zero, List.getElem?_cons_succ] at z0 z2
              rw [(HS).out.len, HM.out] at z0
              rw [HM.out] at z2
              have y0 := HBK.out.cell 0
              have y1 := HBK.out.cell 1
              have y2 := HBK.out.cell 2
              simp only [List.getElem?_toArray, List.getElem?_cons_zero, List.getElem?_cons_succ] at y0 y1 y2
              rw [hib] at y2
              obtain ⟨je, hje⟩ : ∃ je, endF X ib = je := ⟨_, rfl⟩
              rw [hje] at hme
              have HJE := Lib.hid hje
              have HCA := Lib.hid (fun W (hb : Below _ _ W) => (HS.out.below hb).end_ (setA_pr HP.out k HX.out) HN.out HEX.out hme)
              clear hib hme hje
              go_upto_region 7 with (fail)
              apply wp_region_relA 12 [eqT _, eqT _, eqT _, eqT _, eqT _, eqT _, eqT _, eqT _, eqT _, eqT _, eqT _, eqT _] (by kernel_rfl) (by kernel_rfl) (by kernel_rfl) rfl
              focus
                refine ⟨?_, ?_⟩
                focus
                  unfold opGoal
                  rw [if_pos (by kernel_rfl)]
                  intro x hb hd K hk
                  clear hd
                  go_wp2_with fail
                  exact hk _ _ rfl trivial (Below.refl _ _)
                rintro _ rfl
                simp only [Act.put, List.setIfInBounds_toArray, List.set_cons_succ, List.set_cons_zero]
                refine ⟨?_, ?_⟩
                focus
                  unfold opGoal
                  rw [if_pos (by kernel_rfl)]
                  intro x hb hd K hk
                  clear hd
                  go_wp2_with fail
                  exact hk _ _ rfl trivial (Below.refl _ _)
                rintro _ rfl
                simp only [Act.put, List.setIfInBounds_toArray, List.set_cons_succ, List.set_cons_zero]
                refine ⟨?_, ?_⟩
                focus
                  unfold opGoal
                  rw [if_pos (by kernel_rfl)]
                  intro x hb hd K hk
                  clear hd
                  go_wp2_with fail
                  exact hk _ _ rfl trivial (Below.refl _ _)
                rintro _ rfl
                simp only [Act.put, List.setIfInBounds_toArray, List.set_cons_succ, List.set_cons_zero]
                refine ⟨?_, ?_⟩
                focus
                  unfold opGoal
                  rw [if_pos (by kernel_rfl)]
                  intro x hb hd K hk
                  clear hd
                  go_wp2_with fail
                  exact hk _ _ rfl trivial (Below.refl _ _)
                rintro _ rfl
                simp only [Act.put, List.setIfInBounds_toArray, List.set_cons_succ, List.set_cons_zero]
                refine ⟨?_, ?_⟩
                focus
                  unfold opGoal
                  rw [if_pos (by kernel_rfl)]
                  intro x hb hd K hk
                  clear hd
                  have l0 := cell_keep hb z0
                  go_wp2_with fail
                  exact hk _ _ rfl trivial (Below.refl _ _)
                rintro _ rfl
                simp only [Act.put, List.setIfInBounds_toArray, List.set_cons_succ, List.set_cons_zero]
                refine ⟨?_, ?_⟩
                focus
                  unfold opGoal
                  rw [if_pos (by kernel_rfl)]
                  intro x hb hd K hk
                  clear hd
                  go_wp2_with fail
                  exact hk _ _ rfl trivial (Below.refl _ _)
                rintro _ rfl
                simp only [Act.put, List.setIfInBounds_toArray, List.set_cons_succ, List.set_cons_zero]
                refine ⟨?_, ?_⟩
                focus
                  unfold opGoal
                  rw [if_pos (by kernel_rfl)]
                  intro x hb hd K hk
                  clear hd
                  go_wp2_with fail
                  exact hk _ _ rfl trivial (Below.refl _ _)
                rintro _ rfl
                simp only [Act.put, List.setIfInBounds_toArray, List.set_cons_succ, List.set_cons_zero]
                refine ⟨?_, ?_⟩
                focus
                  unfold opGoal
                  rw [if_pos (by kernel_rfl)]
                  intro x hb hd K hk
                  clear hd
                  go_wp2_with fail
                  exact hk _ _ rfl trivial (Below.refl _ _)
                rintro _ rfl
                simp only [Act.put, List.setIfInBounds_toArray, List.set_cons_succ, List.set_cons_zero]
                refine ⟨?_, ?_⟩
                focus
                  unfold opGoal
                  rw [if_pos (by kernel_rfl)]
                  intro x hb hd K hk
                  clear hd
                  have l0 := cell_keep hb y2
                  go_wp2_with fail
                  exact hk _ _ rfl trivial (Below.refl _ _)
                rintro _ rfl
                simp only [Act.put, List.setIfInBounds_toArray, List.set_cons_succ, List.set_cons_zero]
                refine ⟨?_, ?_⟩
                focus
                  unfold opGoal
                  rw [if_pos (by kernel_rfl)]
                  intro x hb hd K hk
                  clear hd
                  go_wp2_with fail
                  refine (HCA.out x hb).mono ?_
                  rintro e x' ⟨rfl, hb'⟩
                  exact hk _ _ rfl trivial hb'
                rintro _ rfl
                simp only [Act.put, List.setIfInBounds_toArray, List.set_cons_succ, List.set_cons_zero]
                refine ⟨?_, ?_⟩
                focus
                  unfold opGoal
                  rw [if_pos (by kernel_rfl)]
                  intro x hb hd K hk
                  clear hd
                  go_wp2_with fail
                  exact hk _ _ rfl trivial (Below.refl _ _)
                rintro _ rfl
                simp only [Act.put, List.setIfInBounds_toArray, List.set_cons_succ, List.set_cons_zero]
                refine ⟨?_, ?_⟩
                focus
                  unfold opGoal
                  rw [if_pos (by kernel_rfl)]
                  intro x hb hd K hk
                  clear hd
                  go_wp2_with fail
                  exact hk _ _ rfl trivial (Below.refl _ _)
                rintro _ rfl
                simp only [Act.put, List.setIfInBounds_toArray, List.set_cons_succ, List.set_cons_zero]
                intro x2 hbx hf
                simp only [List.drop_succ_cons, List.drop_zero]
                clear hf HCA z0 z2 y0 y1 y2
                replace HS := Lib.hid (HS.out.below hbx)
                replace HBK := Lib.hid (HBK.out.below hbx)
                clear hbx
                obtain ⟨vq, hcq⟩ : ∃ v, x2.cell? ⟨gl, k * 4 + 2, none⟩ = some v := ⟨_, by
                  have h := (HS.out.p.rd.at_ (show k < _ by rw [HS.out.len]; exact HKX.out)).2 2 _ rfl
                  rw [Nat.zero_add] at h
                  exact h⟩
                have fq := HS.out.p.fro (k * 4 + 2)
                have HS2 := Lib.hid (HS.out.store (y := strI X k x) (List.getElem?_set_self (by rw [strK_length]; exact HKX.out)) (show 2 < 4 by decide) (u := .int .i64 (je : Int)) (by
                  rw [strI_A, HPB.out, HIB.out, Int.toNat_natCast, HJE.out]; rfl))
                rw [List.set_set] at HS2
                have HEI := Lib.hid (rfl : (strK X k).set k (strI X k x) = (strK X k).set k (strI X k x))
                replace HS := HS2
                clear HS2
                go_upto_region 8 with (fail)
                generalize x2.setCell ⟨gl, k * 4 + 2, none⟩ (.int .i64 (je : Int)) = wz at *
                clear hcq fq
                have HS3 := Lib.hid (show StW w _ base g gl gc X (strK X (k + 1)) cl st by rw [strK_next HX.out, HEI.out]; exact HS.out)
                clear HS
                go_wp2_with fail
                go_roundw
                case rel => exact ⟨k + 1, by omega, by go_num, HS3⟩
                case measure => simp [intOf]; omega
    · obtain rfl : k = m := by omega
      have HE := Lib.hid (show strK X k = straightX X by rw [← HM.out]; rfl)
      rw [HE.out] at HS
      clear hlt hk HE
      go_wp2_with fail
      go_returns
      exact ⟨rfl, HS.out.p, HS.out.c, HS.out.but⟩
end Go.Proofs.YtpogngdddendiaaDoor
