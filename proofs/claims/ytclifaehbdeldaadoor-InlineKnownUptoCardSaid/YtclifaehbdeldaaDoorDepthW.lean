/- The walk over core.Depth, on a tree laid flat. Bounds on the lengths. -/
import Derived.Test.YtclifaehbdeldaaDoorCoreL
import Derived.Test.YtclifaehbdeldaaDoorGA
import Derived.Lib.MinMax
import Derived.WalkSmall
import Derived.Deep.DeepCutAuto
import Derived.Deep.CutBlock
import Derived.Outline
import Derived.Handy
set_option linter.unusedVariables false
set_option linter.unusedSimpArgs false
namespace Go.Proofs.YtclifaehbdeldaaDoor
open Go.RowKit

/-- the level of the node at place i, of size s, with k children -/
theorem down_any (A : Option Addr) (cp m i s : Nat) (L : List Nd) (w : World) (hrd : RdL w 5 ndc A L) (hm : m = L.length) (hi : i < L.length) (hs : i + s ≤ m) (hmm : m ≤ 4000000) :
    Calls Tryd.prog 161 #[.slice A m cp, .int .i64 i, .int .i64 s] w (Ret w (.agg #[.int .i64 ((i : Int) + 1), .int .i64 ((i : Int) + s), .int .i64 L[i].k])) := by
  obtain ⟨b, o, rfl, _, hc⟩ := hrd i hi
  have c2 := hc 2 _ rfl
  have hi2 : i < m := by omega
  generalize L[i].k = K at *
  have hmin : min (s : Int) ((m : Int) - i) = s := by omega
  have d2 := cell_keep (w' := w.alloc (.cells #[.int .i64 0, .int .i64 0, .int .i64 0] 193)) ((Below.refl _ _).alloc (Nat.le_refl _) _) c2
  clear c2 hc hrd hm
  go_enter Tryd.func161, Tryd.ntmps161
  go_wp2_with fail
  go_returns
  exact ⟨rfl, (Below.refl _ _).alloc (Nat.le_refl _) _⟩

/-- What is left below a stack's level: where the next child lies, and the children that are left. -/
def lvc (x : Nat × List Tr) : List Value := [.int .i64 x.1, .int .i64 ((x.1 : Int) + (flatAll x.2).length), .int .i64 x.2.length]
theorem lvc_len (x : Nat × List Tr) : (lvc x).length = 3 := rfl
theorem lvc_one (x : Nat × List Tr) : ∀ u ∈ lvc x, u.oneCell' = true := by
  intro u hu
  simp only [lvc, List.mem_cons, List.not_mem_nil, or_false] at hu
  rcases hu with rfl | rfl | rfl <;> rfl
def Fit (L : List Nd) (x : Nat × List Tr) : Prop := ∃ rest, L.drop x.1 = flatAll x.2 ++ rest
def wtG (G : List (Nat × List Tr)) : Nat := (G.map fun x => 2 * (flatAll x.2).length).sum + G.length
def lsum : List Value → Nat
  | a :: b :: _ :: r => 2 * (intOf b - intOf a).toNat + lsum r
  | _ => 0
theorem lsum_flat : ∀ G : List (Nat × List Tr), lsum (G.flatMap lvc) + G.length = wtG G
  | [] => rfl
  | x :: G => by
    have ih := lsum_flat G
    have h : lsum ((x :: G).flatMap lvc) = 2 * (flatAll x.2).length + lsum (G.flatMap lvc) := by
      rw [List.flatMap_cons]
      show 2 * (((x.1 : Int) + (flatAll x.2).length) - (x.1 : Int)).toNat + lsum (G.flatMap lvc) = _
      congr 2
      omega
    rw [h]
    simp only [wtG, List.map_cons, List.sum_cons, List.length_cons] at ih ⊢
    omega
/-- The measure: out of the stack's own cells. -/
def stMeas (u : Value) (w : World) : Nat := match u with
  | .slice (some p) n _ => match w.heap[p.block]? with
    | some (.cells cs _ _) => lsum (cs.toList.take (n * 3)) + n
    | _ => 0
  | _ => 0
theorem stMeas_own {w : World} {base n g cap : Nat} {G : List (Nat × List Tr)} (h : w.ownsRow base 193 3 (.slice (some ⟨g, 0, none⟩) n cap) n (G.flatMap lvc)) (hn : n = G.length) : stMeas (.slice (some ⟨g, 0, none⟩) n cap) w = wtG G := by
  rcases h.2 with ⟨h', _⟩ | ⟨g', cap', cur, h', hb, hg, hnc, hcm, hcs, htake⟩
  · simp at h'
  · simp only [Value.slice.injEq, Option.some.injEq, Addr.mk.injEq, and_true, true_and] at h'
    obtain ⟨rfl, rfl⟩ := h'
    unfold stMeas
    simp only [hg]
    rw [htake, hn, lsum_flat]
theorem wtG_pop (G : List (Nat × List Tr)) (x : Nat × List Tr) : wtG G < wtG (G ++ [x]) := by
  simp only [wtG, List.map_append, List.map_cons, List.map_nil, List.sum_append, List.sum_cons, List.sum_nil, List.length_append, List.length_cons, List.length_nil]
  omega
theorem wtG_push (G : List (Nat × List Tr)) (c c1 c2 : Nat) (t : Tr) (ts : List Tr) : wtG (G ++ [(c1, ts)] ++ [(c2, t.kids)]) < wtG (G ++ [(c, t :: ts)]) := by
  have h := flat_kids_le t
  simp only [wtG, List.map_append, List.map_cons, List.map_nil, List.sum_append, List.sum_cons, List.sum_nil, List.length_append, List.length_cons, List.length_nil, flatAll_cons]
  omega
theorem infoLevel : (Tryd.prog.info? 193).map (fun i => (i.zero, i.size, i.bytes)) = some (some (.agg #[.int .i64 0, .int .i64 0, .int .i64 0]), 3, 24) := by kernel_rfl
/-- one cell of a block may have been set -/
def SetR (g j : Nat) (v : Value) (x x' : World) : Prop :=
  Below g x x' ∧ x'.heap.size = x.heap.size ∧ (∀ k, k ≠ g → x'.heap[k]? = x.heap[k]?) ∧
  ∀ cs t fr, x.heap[g]? = some (.cells cs t fr) → x'.heap[g]? = some (.cells cs t fr) ∨ x'.heap[g]? = some (.cells (cs.setIfInBounds j v) t fr)
theorem SetR.refl (g j : Nat) (v : Value) (x : World) : SetR g j v x x := ⟨Below.refl _ _, rfl, fun _ _ => rfl, fun _ _ _ h => .inl h⟩
theorem SetR.trans {g j : Nat} {v : Value} {x y z : World} (h : SetR g j v x y) (h' : SetR g j v y z) : SetR g j v x z := by
  refine ⟨h.1.trans h'.1, h'.2.1.trans h.2.1, fun k hk => (h'.2.2.1 k hk).trans (h.2.2.1 k hk), fun cs t fr hx => ?_⟩
  rcases h.2.2.2 cs t fr hx with hy | hy
  · exact h'.2.2.2 cs t fr hy
  · rcases h'.2.2.2 _ t fr hy with hz | hz
    · exact .inr hz
    · refine .inr ?_
      rw [hz, Array.setIfInBounds_setIfInBounds]

theorem depth_le (t : Tr) {n : Nat} (h : (flat t).length ≤ n) : depthT t ≤ n := Nat.le_trans (depthT_len t) h
theorem flat_mapSnd (G : List (Nat × List Tr)) (x : Nat × List Tr) : (G ++ [x]).map (·.2) = G.map (·.2) ++ [x.2] := by simp
theorem lv_snoc (G : List (Nat × List Tr)) (x : Nat × List Tr) : (G ++ [x]).flatMap lvc = G.flatMap lvc ++ lvc x := by simp
theorem lv_len (G : List (Nat × List Tr)) : (G.flatMap lvc).length = G.length * 3 := flat_len lvc_len G

theorem SetR.far {g j : Nat} {v : Value} {x y : World} (h : SetR g j v x y) {p : Addr} {u : Value} (hp : p.block ≠ g) (hx : x.cell? p = some u) : y.cell? p = some u := by
  unfold World.cell? at hx ⊢
  rw [h.2.2.1 _ hp]
  exact hx
theorem SetR.blk {g j : Nat} {v : Value} {x y : World} (h : SetR g j v x y) {t : TypeId} {cs : Array Value} (hx : Blk x g t cs) : Blk y g t cs ∨ Blk y g t (cs.setIfInBounds j v) := h.2.2.2 cs t (0, 0) hx
theorem SetR.other {g j i : Nat} {v u : Value} {x y : World} (h : SetR g j v x y) {t : TypeId} {cs : Array Value} (hx : Blk x g t cs) (hij : j ≠ i) (hu : cs[i]? = some u) : y.cell? ⟨g, i, none⟩ = some u := by
  rcases h.blk hx with hy | hy
  · rw [hy.cell]; exact hu
  · rw [hy.cell, Array.getElem?_setIfInBounds_ne hij]; exact hu
theorem SetR.set {g j : Nat} {v : Value} {x : World} {t : TypeId} {cs : Array Value} (hx : Blk x g t cs) : SetR g j v x (x.setCell ⟨g, j, none⟩ v) := by
  have hb0 : Below g x (x.setCell ⟨g, j, none⟩ v) := (Below.refl g x).setCell (Nat.le_refl _) _
  refine ⟨hb0, by simp [World.setCell], fun k hk => heap_setCell_other x ⟨g, j, none⟩ k v hk, fun cs' t' fr hx' => .inr ?_⟩
  have h1 : (some (Obj.cells cs t (0, 0)) : Option Obj) = some (.cells cs' t' fr) := hx.symm.trans hx'
  injection h1 with h1
  injection h1 with h2 h3 h4
  subst h2 h3 h4
  exact hx.set j v
theorem SetR.drew (g j : Nat) (v : Value) (x : World) : SetR g j v x { x with drawn := x.drawn + 1 } := ⟨(Below.refl _ _).drew, rfl, fun _ _ => rfl, fun _ _ _ h => .inl h⟩
def stT (g j : Nat) (v : Value) (t : TypeId) (cs : Array Value) : TTR (SetR g j v) := ⟨fun _ => True, ⟨undef, trivial⟩, fun _ y => Blk y g t (cs.setIfInBounds j v), fun _ y y' h hr => by
  rcases hr.blk h with h' | h'
  · exact h'
  · rw [Array.setIfInBounds_setIfInBounds] at h'; exact h'⟩
theorem set_tail (P : List Value) (a b d a' d' : Value) : ((P ++ [a, b, d]).set P.length a').set (P.length + 2) d' = P ++ [a', b, d'] := by
  induction P with
  | nil => rfl
  | cons x P ih => simp
/-- A row of its own of which two cells of the last element have been set. -/
theorem own_set2 {w x : World} {base k g cap : Nat} {G : List (Nat × List Tr)} {a b d a' d' : Value} (h : w.ownsRow base 193 3 (.slice (some ⟨g, 0, none⟩) (k + 1) cap) (k + 1) (G.flatMap lvc ++ [a, b, d])) (hk : k = G.length) {cur : Array Value}
    (hg : Blk w g 193 cur) (hx : Blk x g 193 ((cur.setIfInBounds (k * 3) a').setIfInBounds (k * 3 + 2) d')) : x.ownsRow base 193 3 (.slice (some ⟨g, 0, none⟩) (k + 1) cap) (k + 1) (G.flatMap lvc ++ [a', b, d']) := by
  have hl := lv_len G
  rcases h.2 with ⟨h', _⟩ | ⟨g', cap', cur', h', hb, hg', hnc, hcm, hcs, htake⟩
  · simp at h'
  · simp only [Value.slice.injEq, Option.some.injEq, Addr.mk.injEq, and_true, true_and] at h'
    obtain ⟨rfl, rfl⟩ := h'
    have h1 : (some (Obj.cells cur 193 (0, 0)) : Option Obj) = some (.cells cur' 193 (0, 0)) := hg.symm.trans hg'
    injection h1 with h1
    injection h1 with h1
    subst h1
    refine ⟨by simp [hl, hk]; omega, .inr ⟨g, cap, _, rfl, hb, hx, hnc, hcm, by simpa using hcs, ?_⟩⟩
    rw [Array.toList_setIfInBounds, Array.toList_setIfInBounds, List.take_set, List.take_set, htake, ← set_tail (G.flatMap lvc) a b d a' d', hl, hk]
theorem own_blk {w : World} {base n g cap : Nat} {xs : List Value} (h : w.ownsRow base 193 3 (.slice (some ⟨g, 0, none⟩) n cap) n xs) : ∃ cur, Blk w g 193 cur := by
  rcases h.2 with ⟨h', _⟩ | ⟨g', cap', cur', h', hb, hg', _⟩
  · simp at h'
  · simp only [Value.slice.injEq, Option.some.injEq, Addr.mk.injEq, and_true, true_and] at h'
    obtain ⟨rfl, rfl⟩ := h'
    exact ⟨_, hg'⟩
theorem fit_head {L : List Nd} {c : Nat} {t : Tr} {ts : List Tr} (h : Fit L (c, t :: ts)) : c + (flat t).length + (flatAll ts).length ≤ L.length ∧ (∃ hc : c < L.length, L[c] = ⟨t.kind, t.num, t.kids.length, ((flat t).length : Int), t.str⟩) ∧ Fit L (c + (flat t).length, ts) ∧ Fit L (c + 1, t.kids) := by
  obtain ⟨rest, h⟩ := h
  simp only [flatAll_cons] at h
  have hp := flat_pos t
  have hlen := congrArg List.length h
  simp only [List.length_drop, List.length_append] at hlen
  have hc : c < L.length := by omega
  refine ⟨by omega, ⟨hc, ?_⟩, ⟨rest, ?_⟩, ⟨flatAll ts ++ rest, ?_⟩⟩
  · have h0 : (L.drop c)[0]? = some L[c] := by rw [List.getElem?_drop, Nat.add_zero, List.getElem?_eq_getElem hc]
    rw [h, List.append_assoc, List.getElem?_append_left hp, List.getElem?_eq_getElem hp, flat_get0] at h0
    injection h0 with h0
    exact h0.symm
  · show L.drop (c + (flat t).length) = _
    rw [← List.drop_drop, h, List.append_assoc, List.drop_left]
  · show L.drop (c + 1) = _
    rw [← List.drop_drop, h]
    cases t with
    | mk kd n s ks => rw [flat_mk]; simp [Tr.kids]

set_option maxRecDepth 100000 in
set_option maxHeartbeats 8000000 in
theorem depth_any (t : Tr) (v : Value) (w : World) (hv : SlRd w v (flat t)) (hn : (flat t).length ≤ 4000000) : Calls Tryd.prog 118 #[v] w (Ret w (.int .i64 (depthT t))) := by
  obtain ⟨i0, hi, hz0, hz1, hz2⟩ := info_parts infoLevel
  obtain ⟨A, cp, rfl, hrd, hc, hm, hA, hsp⟩ := hv
  obtain ⟨b, o, rfl, hbl⟩ := hrd.addr (flat_pos t)
  have hpos := flat_pos t
  have hx := hrd.at_ hpos
  rw [flat_get0] at hx
  have c3 := hx.2 3 _ rfl
  simp only [Nat.zero_mul, Nat.add_zero] at c3
  clear hx
  obtain ⟨m, hml⟩ : ∃ m, m = (flat t).length := ⟨_, rfl⟩
  have DW := Lib.hid (down_any (some ⟨b, o, none⟩) cp m 0 m (flat t) w hrd hml hpos (by omega) (by omega))
  rw [flat_get0] at DW
  have hkl : t.kids.length ≤ m := by have h1 := len_flatAll t.kids; have h2 := flat_kids_le t; omega
  have hD := depthT_len t
  rw [← hml] at c3 hn hpos hD ⊢
  have HM := Lib.hid hml
  have hfk := flat_kids_le t
  rw [← hml] at hfk
  have HFK := Lib.hid hfk
  clear hml hA hsp hc hfk
  go_enter Tryd.func118, Tryd.ntmps118
  go_wp2_with fail
  refine DW.out.mono ?_
  rintro e w1 ⟨rfl, hb⟩
  clear c3 DW
  have hown0 := World.ownsRow_lit (base := w.heap.size) (e := 193) w1 #[.int .i64 1, .int .i64 m, .int .i64 t.kids.length] 1 (size := 3) hb.size (by decide) rfl
  go_upto_region 5 with (fail)
  go_loopw [3, 4] (fun v u wr => ∃ (most n g cap : Nat) (G : List (Nat × List Tr)), v = .int .i64 most ∧ u = .slice (some ⟨g, 0, none⟩) n cap ∧ Hid (n = G.length) ∧ n ≤ most ∧ most ≤ m ∧ w.heap.size ≤ g ∧
      wr.ownsRow w.heap.size 193 3 (.slice (some ⟨g, 0, none⟩) n cap) n (G.flatMap lvc) ∧ Below w.heap.size w wr ∧ Hid (∀ x ∈ G, Fit (flat t) x) ∧ Hid (max most (depF 1 (G.map (·.2))) = depthT t)) (fun _ u wr => stMeas u wr)
  case atStart =>
    refine ⟨1, 1, w1.heap.size, 1, [(1, t.kids)], rfl, rfl, rfl, Nat.le_refl _, hpos, hb.size, ?_, hb.trans ((Below.refl _ _).alloc hb.size _), ?_, ?_⟩
    · have he : [((1 : Nat), t.kids)].flatMap lvc = (#[Value.int .i64 1, .int .i64 m, .int .i64 t.kids.length] : Array Value).toList := by
        have h := HFK.out
        simp [lvc]
        omega
      rw [he]
      exact hown0
    · intro x hx
      simp only [List.mem_singleton] at hx
      subst hx
      cases t
      exact ⟨[], by rw [flat_mk]; simp [Tr.kids]⟩
    · show max 1 (depF 1 [t.kids]) = depthT t
      simp only [depF, depth_kids]
      omega
  case round =>
    obtain ⟨most, n, g, cap, G, rfl, rfl, HL, hnm, hmm, hg, hown, hbr, HF, HD⟩ := hrel
    have hmeas := stMeas_own hown HL.out
    rcases List.eq_nil_or_concat G with hG | ⟨G0, ⟨c, f⟩, hG⟩
    all_goals try rw [List.concat_eq_append] at hG
    · have hn0 : n = 0 := by rw [HL.out, hG]; rfl
      subst hn0
      have HM2 := Lib.hid (show most = depthT t by rw [← HD.out, hG]; simp [depF])
      clear hmeas hown
      go_wp2_with fail
      go_ret
      exact ⟨by rw [HM2.out]; rfl, hbr⟩
    · obtain ⟨k, hk⟩ : ∃ k, k = G0.length := ⟨_, rfl⟩
      obtain rfl : n = k + 1 := by rw [HL.out, hG, hk]; simp
      subst hG
      rw [lv_snoc] at hown
      have HK := Lib.hid hk
      have hcl : ∀ (j : Nat) (u : Value), (lvc (c, f))[j]? = some u → wr.cell? ⟨g, k * 3 + j, none⟩ = some u := fun j u hu => by
        have hj : j < 3 := by have := (List.getElem?_eq_some_iff.1 hu).1; rwa [lvc_len] at this
        rw [hown.cellAt _ (by omega), List.getElem?_append_right (by rw [lv_len]; omega), lv_len, ← hk, Nat.add_sub_cancel_left]
        exact hu
      have l0 := hcl 0 _ rfl
      have l1 := hcl 1 _ rfl
      have l2 := hcl 2 _ rfl
      simp only [Nat.add_zero] at l0 l1 l2
      clear hcl hk
      have hrdr := hrd.below hbr
      have HMS := Lib.hid hmeas
      have HOW := Lib.hid hown
      clear hmeas hown
      go_upto_region 8 with (fail)
      rcases f with _ | ⟨t', ts⟩
      · have e0 := Later.cell l0
        have e1 := Later.cell l1
        have e2 := Later.cell l2
        simp only [List.length_nil] at e2
        refine wp_region_eq (by kernel_rfl) (by kernel_rfl) ?_
        apply EqGo.run
        focus
          kernel_rfl
        focus
          intro x K hK
          go_wp2_with fail
          first | exact hK x (Below.refl _ _) | exact Below.refl _ _
        simp only [Act.put, List.setIfInBounds_toArray, List.set_cons_succ, List.set_cons_zero]
        apply EqGo.run
        focus
          kernel_rfl
        focus
          intro x K hK
          go_wp2_with fail
          first | exact hK x (Below.refl _ _) | exact Below.refl _ _
        simp only [Act.put, List.setIfInBounds_toArray, List.set_cons_succ, List.set_cons_zero]
        apply EqGo.run
        focus
          kernel_rfl
        focus
          intro x K hK
          go_wp2_with fail
          first | exact hK x (Below.refl _ _) | exact Below.refl _ _
        simp only [Act.put, List.setIfInBounds_toArray, List.set_cons_succ, List.set_cons_zero]
        apply EqGo.run
        focus
          kernel_rfl
        focus
          intro x K hK
          go_wp2_with fail
          first | exact hK x (Below.refl _ _) | exact Below.refl _ _
        simp only [Act.put, List.setIfInBounds_toArray, List.set_cons_succ, List.set_cons_zero]
        apply EqGo.run
        focus
          kernel_rfl
        focus
          intro x K hK
          go_wp2_with fail
          first | exact hK x (Below.refl _ _) | exact Below.refl _ _
        simp only [Act.put, List.setIfInBounds_toArray, List.set_cons_succ, List.set_cons_zero]
        apply EqGo.run
        focus
          kernel_rfl
        focus
          intro x K hK
          go_wp2_with fail
          first | exact hK x (Below.refl _ _) | exact Below.refl _ _
        simp only [Act.put, List.setIfInBounds_toArray, List.set_cons_succ, List.set_cons_zero]
        apply EqGo.skip
        focus
          kernel_rfl
        simp only [Act.put, List.setIfInBounds_toArray, List.set_cons_succ, List.set_cons_zero]
        apply EqGo.skip
        focus
          kernel_rfl
        simp only [Act.put, List.setIfInBounds_toArray, List.set_cons_succ, List.set_cons_zero]
        apply EqGo.skip
        focus
          kernel_rfl
        simp only [Act.put, List.setIfInBounds_toArray, List.set_cons_succ, List.set_cons_zero]
        apply EqGo.skip
        focus
          kernel_rfl
        simp only [Act.put, List.setIfInBounds_toArray, List.set_cons_succ, List.set_cons_zero]
        apply EqGo.skip
        focus
          kernel_rfl
        simp only [Act.put, List.setIfInBounds_toArray, List.set_cons_succ, List.set_cons_zero]
        apply EqGo.skip
        focus
          kernel_rfl
        simp only [Act.put, List.setIfInBounds_toArray, List.set_cons_succ, List.set_cons_zero]
        apply EqGo.run
        focus
          kernel_rfl
        focus
          intro x K hK
          go_wp2_with fail
          first | exact hK x (Below.refl _ _) | exact Below.refl _ _
        simp only [Act.put, List.setIfInBounds_toArray, List.set_cons_succ, List.set_cons_zero]
        apply EqGo.run
        focus
          kernel_rfl
        focus
          intro x K hK
          go_wp2_with fail
          first | exact hK x (Below.refl _ _) | exact Below.refl _ _
        simp only [Act.put, List.setIfInBounds_toArray, List.set_cons_succ, List.set_cons_zero]
        apply EqGo.skip
        focus
          kernel_rfl
        simp only [Act.put, List.setIfInBounds_toArray, List.set_cons_succ, List.set_cons_zero]
        apply EqGo.skip
        focus
          kernel_rfl
        simp only [Act.put, List.setIfInBounds_toArray, List.set_cons_succ, List.set_cons_zero]
        apply EqGo.skip
        focus
          kernel_rfl
        simp only [Act.put, List.setIfInBounds_toArray, List.set_cons_succ, List.set_cons_zero]
        apply EqGo.skip
        focus
          kernel_rfl
        simp only [Act.put, List.setIfInBounds_toArray, List.set_cons_succ, List.set_cons_zero]
        apply EqGo.skip
        focus
          kernel_rfl
        simp only [Act.put, List.setIfInBounds_toArray, List.set_cons_succ, List.set_cons_zero]
        apply EqGo.skip
        focus
          kernel_rfl
        simp only [Act.put, List.setIfInBounds_toArray, List.set_cons_succ, List.set_cons_zero]
        apply EqGo.run
        focus
          kernel_rfl
        focus
          intro x K hK
          go_wp2_with fail
          first | exact hK x (Below.refl _ _) | exact Below.refl _ _
        simp only [Act.put, List.setIfInBounds_toArray, List.set_cons_succ, List.set_cons_zero]
        apply EqGo.run
        focus
          kernel_rfl
        focus
          intro x K hK
          go_wp2_with fail
          first | exact hK x (Below.refl _ _) | exact Below.refl _ _
        simp only [Act.put, List.setIfInBounds_toArray, List.set_cons_succ, List.set_cons_zero]
        apply EqGo.skip
        focus
          kernel_rfl
        simp only [Act.put, List.setIfInBounds_toArray, List.set_cons_succ, List.set_cons_zero]
        apply EqGo.skip
        focus
          kernel_rfl
        simp only [Act.put, List.setIfInBounds_toArray, List.set_cons_succ, List.set_cons_zero]
        apply EqGo.skip
        focus
          kernel_rfl
        simp only [Act.put, List.setIfInBounds_toArray, List.set_cons_succ, List.set_cons_zero]
        apply EqGo.skip
        focus
          kernel_rfl
        simp only [Act.put, List.setIfInBounds_toArray, List.set_cons_succ, List.set_cons_zero]
        apply EqGo.skip
        focus
          kernel_rfl
        simp only [Act.put, List.setIfInBounds_toArray, List.set_cons_succ, List.set_cons_zero]
        apply EqGo.skip
        focus
          kernel_rfl
        simp only [Act.put, List.setIfInBounds_toArray, List.set_cons_succ, List.set_cons_zero]
        apply EqGo.skip
        focus
          kernel_rfl
        simp only [Act.put, List.setIfInBounds_toArray, List.set_cons_succ, List.set_cons_zero]
        apply EqGo.skip
        focus
          kernel_rfl
        simp only [Act.put, List.setIfInBounds_toArray, List.set_cons_succ, List.set_cons_zero]
        apply EqGo.skip
        focus
          kernel_rfl
        simp only [Act.put, List.setIfInBounds_toArray, List.set_cons_succ, List.set_cons_zero]
        apply EqGo.skip
        focus
          kernel_rfl
        simp only [Act.put, List.setIfInBounds_toArray, List.set_cons_succ, List.set_cons_zero]
        apply EqGo.skip
        focus
          kernel_rfl
        simp only [Act.put, List.setIfInBounds_toArray, List.set_cons_succ, List.set_cons_zero]
        apply EqGo.skip
        focus
          kernel_rfl
        simp only [Act.put, List.setIfInBounds_toArray, List.set_cons_succ, List.set_cons_zero]
        apply EqGo.run
        focus
          kernel_rfl
        focus
          intro x K hK
          go_wp2_with fail
          first | exact hK x (Below.refl _ _) | exact Below.refl _ _
        simp only [Act.put, List.setIfInBounds_toArray, List.set_cons_succ, List.set_cons_zero]
        intro x
        clear e0 e1 e2 l0 l1 l2
        have hkc : k ≤ cap := by
          rcases HOW.out.2 with ⟨h', _⟩ | ⟨g', cap', cur', h', hb, hg', hnc, hcm, hcs, htake⟩
          · simp at h'
          · simp only [Value.slice.injEq, Option.some.injEq, Addr.mk.injEq, and_true, true_and] at h'
            omega
        go_wp2_with fail
        have hown' := own_below (ownsRow_pop (by rw [lv_len, HK.out]) HOW.out) x.below
        go_roundw
        case rel =>
          refine ⟨most, k, g, cap, G0, rfl, rfl, HK, by omega, hmm, hg, hown', hbr.trans (x.below.mono hbr.size), Lib.hid (fun y hy => HF.out y (List.mem_append_left _ hy)), Lib.hid ?_⟩
          rw [← HD.out, flat_mapSnd, depF_pop _ _ (by rw [List.length_map, ← HK.out]; exact hnm)]
        case measure =>
          rw [HMS.out, stMeas_own hown' HK.out]
          exact wtG_pop _ _
      · obtain ⟨hfit, ⟨hcl, hnode⟩, hfit1, hfit2⟩ := fit_head (HF.out (c, t' :: ts) (by simp))
        obtain ⟨b', o', he, _, hcells⟩ := hrd c hcl
        simp only [Option.some.injEq, Addr.mk.injEq, and_true] at he
        obtain ⟨rfl, rfl⟩ := he
        rw [hnode] at hcells
        have n3w : w.cell? ⟨b, o + c * 5 + 3, none⟩ = some (.int .i64 ((flat t').length : Int)) := hcells 3 _ rfl
        have n3 := cell_keep hbr n3w
        have HN3 := Lib.hid n3w
        clear n3w
        clear hcells
        rw [← HM.out] at hfit hcl
        have hp' := flat_pos t'
        have HF1 := Lib.hid hfit1
        have HF2 := Lib.hid hfit2
        have HND := Lib.hid hnode
        have HCL := Lib.hid hcl
        obtain ⟨s, hs⟩ : ∃ s, s = (flat t').length := ⟨_, rfl⟩
        obtain ⟨r, hr⟩ : ∃ r, r = (flatAll ts).length := ⟨_, rfl⟩
        have hE : (c : Int) + (flatAll (t' :: ts)).length = ((c + s + r : Nat) : Int) := by rw [flatAll_cons, List.length_append, hs, hr]; omega
        rw [hE] at l1
        rw [← hs] at n3 hfit hp'
        rw [← hr] at hfit
        obtain ⟨q, hq⟩ : ∃ q, q = ts.length := ⟨_, rfl⟩
        have hl2 : ((t' :: ts).length : Int) = (q : Int) + 1 := by rw [hq]; simp
        rw [hl2] at l2
        have hq4 : q ≤ 4000000 := by have := len_flatAll ts; omega
        obtain ⟨E, hEE⟩ : ∃ E : Int, E = ((c + s + r : Nat) : Int) := ⟨_, rfl⟩
        rw [← hEE] at l1
        have HE := Lib.hid hEE
        have HQ := Lib.hid hq
        have HS := Lib.hid hs
        have HR := Lib.hid hr
        have e0 := Later.cell l0
        have e1 := Later.cell l1
        have e2 := Later.cell l2
        have e3 := Later.cell n3
        have hE2 : (c : Int) ≤ E ∧ E ≤ 4000000 := by omega
        have d1 : decide ((q : Int) + 1 ≤ 0) = false := decide_eq_false (by omega)
        have d2 : decide (E ≤ (c : Int)) = false := decide_eq_false (by omega)
        have d3 : decide ((s : Int) < 1) = false := decide_eq_false (by omega)
        have d4 : decide (E - (c : Int) < (s : Int)) = false := decide_eq_false (by omega)
        clear hnode hfit1 hfit2 hE hl2 hEE hq hs hr
        refine wp_region_eq (by kernel_rfl) (by kernel_rfl) ?_
        apply EqGo.run
        focus
          kernel_rfl
        focus
          intro x K hK
          go_wp2_with fail
          first | exact hK x (Below.refl _ _) | exact Below.refl _ _
        simp only [Act.put, List.setIfInBounds_toArray, List.set_cons_succ, List.set_cons_zero]
        apply EqGo.run
        focus
          kernel_rfl
        focus
          intro x K hK
          go_wp2_with fail
          first | exact hK x (Below.refl _ _) | exact Below.refl _ _
        simp only [Act.put, List.setIfInBounds_toArray, List.set_cons_succ, List.set_cons_zero]
        apply EqGo.run
        focus
          kernel_rfl
        focus
          intro x K hK
          go_wp2_with fail
          first | exact hK x (Below.refl _ _) | exact Below.refl _ _
        simp only [Act.put, List.setIfInBounds_toArray, List.set_cons_succ, List.set_cons_zero]
        apply EqGo.run
        focus
          kernel_rfl
        focus
          intro x K hK
          go_wp2_with fail
          first | exact hK x (Below.refl _ _) | exact Below.refl _ _
        simp only [Act.put, List.setIfInBounds_toArray, List.set_cons_succ, List.set_cons_zero]
        apply EqGo.run
        focus
          kernel_rfl
        focus
          intro x K hK
          go_wp2_with fail
          first | exact hK x (Below.refl _ _) | exact Below.refl _ _
        simp only [Act.put, List.setIfInBounds_toArray, List.set_cons_succ, List.set_cons_zero]
        apply EqGo.run
        focus
          kernel_rfl
        focus
          intro x K hK
          go_wp2_with fail
          first | exact hK x (Below.refl _ _) | exact Below.refl _ _
        simp only [Act.put, List.setIfInBounds_toArray, List.set_cons_succ, List.set_cons_zero]
        apply EqGo.run
        focus
          kernel_rfl
        focus
          intro x K hK
          go_wp2_with fail
          first | exact hK x (Below.refl _ _) | exact Below.refl _ _
        simp only [Act.put, List.setIfInBounds_toArray, List.set_cons_succ, List.set_cons_zero]
        apply EqGo.run
        focus
          kernel_rfl
        focus
          intro x K hK
          go_wp2_with fail
          first | exact hK x (Below.refl _ _) | exact Below.refl _ _
        simp only [Act.put, List.setIfInBounds_toArray, List.set_cons_succ, List.set_cons_zero]
        apply EqGo.run
        focus
          kernel_rfl
        focus
          intro x K hK
          go_wp2_with fail
          first | exact hK x (Below.refl _ _) | exact Below.refl _ _
        simp only [Act.put, List.setIfInBounds_toArray, List.set_cons_succ, List.set_cons_zero]
        apply EqGo.run
        focus
          kernel_rfl
        focus
          intro x K hK
          go_wp2_with fail
          first | exact hK x (Below.refl _ _) | exact Below.refl _ _
        simp only [Act.put, List.setIfInBounds_toArray, List.set_cons_succ, List.set_cons_zero]
        apply EqGo.run
        focus
          kernel_rfl
        focus
          intro x K hK
          go_wp2_with fail
          first | exact hK x (Below.refl _ _) | exact Below.refl _ _
        simp only [Act.put, List.setIfInBounds_toArray, List.set_cons_succ, List.set_cons_zero]
        apply EqGo.run
        focus
          kernel_rfl
        focus
          intro x K hK
          go_wp2_with fail
          first | exact hK x (Below.refl _ _) | exact Below.refl _ _
        simp only [Act.put, List.setIfInBounds_toArray, List.set_cons_succ, List.set_cons_zero]
        apply EqGo.run
        focus
          kernel_rfl
        focus
          intro x K hK
          go_wp2_with fail
          first | exact hK x (Below.refl _ _) | exact Below.refl _ _
        simp only [Act.put, List.setIfInBounds_toArray, List.set_cons_succ, List.set_cons_zero]
        apply EqGo.run
        focus
          kernel_rfl
        focus
          intro x K hK
          go_wp2_with fail
          first | exact hK x (Below.refl _ _) | exact Below.refl _ _
        simp only [Act.put, List.setIfInBounds_toArray, List.set_cons_succ, List.set_cons_zero]
        apply EqGo.run
        focus
          kernel_rfl
        focus
          intro x K hK
          go_wp2_with fail
          first | exact hK x (Below.refl _ _) | exact Below.refl _ _
        simp only [Act.put, List.setIfInBounds_toArray, List.set_cons_succ, List.set_cons_zero]
        apply EqGo.run
        focus
          kernel_rfl
        focus
          intro x K hK
          go_wp2_with fail
          first | exact hK x (Below.refl _ _) | exact Below.refl _ _
        simp only [Act.put, List.setIfInBounds_toArray, List.set_cons_succ, List.set_cons_zero]
        apply EqGo.run
        focus
          kernel_rfl
        focus
          intro x K hK
          go_wp2_with fail
          first | exact hK x (Below.refl _ _) | exact Below.refl _ _
        simp only [Act.put, List.setIfInBounds_toArray, List.set_cons_succ, List.set_cons_zero]
        apply EqGo.run
        focus
          kernel_rfl
        focus
          intro x K hK
          go_wp2_with fail
          first | exact hK x (Below.refl _ _) | exact Below.refl _ _
        simp only [Act.put, List.setIfInBounds_toArray, List.set_cons_succ, List.set_cons_zero]
        apply EqGo.run
        focus
          kernel_rfl
        focus
          intro x K hK
          go_wp2_with fail
          first | exact hK x (Below.refl _ _) | exact Below.refl _ _
        simp only [Act.put, List.setIfInBounds_toArray, List.set_cons_succ, List.set_cons_zero]
        apply EqGo.run
        focus
          kernel_rfl
        focus
          intro x K hK
          go_wp2_with fail
          first | exact hK x (Below.refl _ _) | exact Below.refl _ _
        simp only [Act.put, List.setIfInBounds_toArray, List.set_cons_succ, List.set_cons_zero]
        apply EqGo.run
        focus
          kernel_rfl
        focus
          intro x K hK
          go_wp2_with fail
          first | exact hK x (Below.refl _ _) | exact Below.refl _ _
        simp only [Act.put, List.setIfInBounds_toArray, List.set_cons_succ, List.set_cons_zero]
        apply EqGo.run
        focus
          kernel_rfl
        focus
          intro x K hK
          go_wp2_with fail
          first | exact hK x (Below.refl _ _) | exact Below.refl _ _
        simp only [Act.put, List.setIfInBounds_toArray, List.set_cons_succ, List.set_cons_zero]
        apply EqGo.run
        focus
          kernel_rfl
        focus
          intro x K hK
          go_wp2_with fail
          first | exact hK x (Below.refl _ _) | exact Below.refl _ _
        simp only [Act.put, List.setIfInBounds_toArray, List.set_cons_succ, List.set_cons_zero]
        apply EqGo.run
        focus
          kernel_rfl
        focus
          intro x K hK
          go_wp2_with fail
          first | exact hK x (Below.refl _ _) | exact Below.refl _ _
        simp only [Act.put, List.setIfInBounds_toArray, List.set_cons_succ, List.set_cons_zero]
        apply EqGo.run
        focus
          kernel_rfl
        focus
          intro x K hK
          go_wp2_with fail
          first | exact hK x (Below.refl _ _) | exact Below.refl _ _
        simp only [Act.put, List.setIfInBounds_toArray, List.set_cons_succ, List.set_cons_zero]
        apply EqGo.run
        focus
          kernel_rfl
        focus
          intro x K hK
          go_wp2_with fail
          first | exact hK x (Below.refl _ _) | exact Below.refl _ _
        simp only [Act.put, List.setIfInBounds_toArray, List.set_cons_succ, List.set_cons_zero]
        apply EqGo.run
        focus
          kernel_rfl
        focus
          intro x K hK
          go_wp2_with fail
          first | exact hK x (Below.refl _ _) | exact Below.refl _ _
        simp only [Act.put, List.setIfInBounds_toArray, List.set_cons_succ, List.set_cons_zero]
        apply EqGo.run
        focus
          kernel_rfl
        focus
          intro x K hK
          go_wp2_with fail
          first | exact hK x (Below.refl _ _) | exact Below.refl _ _
        simp only [Act.put, List.setIfInBounds_toArray, List.set_cons_succ, List.set_cons_zero]
        apply EqGo.run
        focus
          kernel_rfl
        focus
          intro x K hK
          go_wp2_with fail
          first | exact hK x (Below.refl _ _) | exact Below.refl _ _
        simp only [Act.put, List.setIfInBounds_toArray, List.set_cons_succ, List.set_cons_zero]
        apply EqGo.run
        focus
          kernel_rfl
        focus
          intro x K hK
          go_wp2_with fail
          first | exact hK x (Below.refl _ _) | exact Below.refl _ _
        simp only [Act.put, List.setIfInBounds_toArray, List.set_cons_succ, List.set_cons_zero]
        apply EqGo.run
        focus
          kernel_rfl
        focus
          intro x K hK
          go_wp2_with fail
          first | exact hK x (Below.refl _ _) | exact Below.refl _ _
        simp only [Act.put, List.setIfInBounds_toArray, List.set_cons_succ, List.set_cons_zero]
        apply EqGo.run
        focus
          kernel_rfl
        focus
          intro x K hK
          go_wp2_with fail
          first | exact hK x (Below.refl _ _) | exact Below.refl _ _
        simp only [Act.put, List.setIfInBounds_toArray, List.set_cons_succ, List.set_cons_zero]
        apply EqGo.run
        focus
          kernel_rfl
        focus
          intro x K hK
          go_wp2_with fail
          first | exact hK x (Below.refl _ _) | exact Below.refl _ _
        simp only [Act.put, List.setIfInBounds_toArray, List.set_cons_succ, List.set_cons_zero]
        apply EqGo.run
        focus
          kernel_rfl
        focus
          intro x K hK
          go_wp2_with fail
          first | exact hK x (Below.refl _ _) | exact Below.refl _ _
        simp only [Act.put, List.setIfInBounds_toArray, List.set_cons_succ, List.set_cons_zero]
        apply EqGo.run
        focus
          kernel_rfl
        focus
          intro x K hK
          go_wp2_with fail
          first | exact hK x (Below.refl _ _) | exact Below.refl _ _
        simp only [Act.put, List.setIfInBounds_toArray, List.set_cons_succ, List.set_cons_zero]
        intro x
        clear e0 e1 e2 e3
        obtain ⟨cur, hcur⟩ := own_blk HOW.out
        have hcx := hcur.below x.below
        have n3x := cell_keep x.below n3
        have hc2 : cur[k * 3 + 2]? = some (.int .i64 ((q : Int) + 1)) := by rw [← hcur.cell]; exact l2
        have hc0 : k * 3 < cur.size ∧ k * 3 + 2 < cur.size := by
          have h2 := (Array.getElem?_eq_some_iff.1 hc2).1
          exact ⟨by omega, h2⟩
        have HBG := Lib.hid (show (⟨b, o + c * 5 + 3, none⟩ : Addr).block ≠ g from by show b ≠ g; omega)
        have HCU := Lib.hid hcx
        have HCR := Lib.hid hcur
        have HC0 := Lib.hid hc0
        have hbx := hbr.trans (x.below.mono hbr.size)
        have HXB := Lib.hid x.below
        generalize x.val = X at *
        clear hcur hcx hc0 l0 l1 l2 n3
        go_upto_region 10 with (fail)
        clear d1 d2 d3 d4
        apply wp_region_relT (R := SetR g (k * 3) (.int .i64 ((c : Int) + s))) (SetR.refl _ _ _) (fun h1 h2 => h1.trans h2) (SetR.drew _ _ _ _) 17
          [eqT _, eqT _, eqT _, eqT _, eqT _, eqT _, eqT _, eqT _, eqT _, eqT _, eqT _, eqT _, eqT _, eqT _, eqT _, eqT _, stT g (k * 3) (.int .i64 ((c : Int) + s)) 193 cur] (by kernel_rfl) (by kernel_rfl) (by kernel_rfl) rfl
        refine ⟨?_, ?_⟩
        focus
          unfold opGoal
          rw [if_pos (by kernel_rfl)]
          intro x hb hd K hk
          clear hd
          go_wp2_with fail
          exact hk _ _ rfl trivial (SetR.refl _ _ _ _)
        rintro _ rfl
        simp only [Act.put, List.setIfInBounds_toArray, List.set_cons_succ, List.set_cons_zero]
        refine ⟨?_, ?_⟩
        focus
          unfold opGoal
          rw [if_pos (by kernel_rfl)]
          intro x hb hd K hk
          clear hd
          go_wp2_with fail
          exact hk _ _ rfl trivial (SetR.refl _ _ _ _)
        rintro _ rfl
        simp only [Act.put, List.setIfInBounds_toArray, List.set_cons_succ, List.set_cons_zero]
        refine ⟨?_, ?_⟩
        focus
          unfold opGoal
          rw [if_pos (by kernel_rfl)]
          intro x hb hd K hk
          clear hd
          go_wp2_with fail
          exact hk _ _ rfl trivial (SetR.refl _ _ _ _)
        rintro _ rfl
        simp only [Act.put, List.setIfInBounds_toArray, List.set_cons_succ, List.set_cons_zero]
        refine ⟨?_, ?_⟩
        focus
          unfold opGoal
          rw [if_pos (by kernel_rfl)]
          intro x hb hd K hk
          clear hd
          go_wp2_with fail
          exact hk _ _ rfl trivial (SetR.refl _ _ _ _)
        rintro _ rfl
        simp only [Act.put, List.setIfInBounds_toArray, List.set_cons_succ, List.set_cons_zero]
        refine ⟨?_, ?_⟩
        focus
          unfold opGoal
          rw [if_pos (by kernel_rfl)]
          intro x hb hd K hk
          clear hd
          go_wp2_with fail
          exact hk _ _ rfl trivial (SetR.refl _ _ _ _)
        rintro _ rfl
        simp only [Act.put, List.setIfInBounds_toArray, List.set_cons_succ, List.set_cons_zero]
        refine ⟨?_, ?_⟩
        focus
          unfold opGoal
          rw [if_pos (by kernel_rfl)]
          intro x hb hd K hk
          clear hd
          go_wp2_with fail
          exact hk _ _ rfl trivial (SetR.refl _ _ _ _)
        rintro _ rfl
        simp only [Act.put, List.setIfInBounds_toArray, List.set_cons_succ, List.set_cons_zero]
        refine ⟨?_, ?_⟩
        focus
          unfold opGoal
          rw [if_pos (by kernel_rfl)]
          intro x hb hd K hk
          clear hd
          go_wp2_with fail
          exact hk _ _ rfl trivial (SetR.refl _ _ _ _)
        rintro _ rfl
        simp only [Act.put, List.setIfInBounds_toArray, List.set_cons_succ, List.set_cons_zero]
        refine ⟨?_, ?_⟩
        focus
          unfold opGoal
          rw [if_pos (by kernel_rfl)]
          intro x hb hd K hk
          clear hd
          have l0 := hb.far HBG.out n3x
          go_wp2_with fail
          exact hk _ _ rfl trivial (SetR.refl _ _ _ _)
        rintro _ rfl
        simp only [Act.put, List.setIfInBounds_toArray, List.set_cons_succ, List.set_cons_zero]
        refine ⟨?_, ?_⟩
        focus
          unfold opGoal
          rw [if_pos (by kernel_rfl)]
          intro x hb hd K hk
          clear hd
          go_wp2_with fail
          exact hk _ _ rfl trivial (SetR.refl _ _ _ _)
        rintro _ rfl
        simp only [Act.put, List.setIfInBounds_toArray, List.set_cons_succ, List.set_cons_zero]
        refine ⟨?_, ?_⟩
        focus
          unfold opGoal
          rw [if_pos (by kernel_rfl)]
          intro x hb hd K hk
          clear hd
          go_wp2_with fail
          exact hk _ _ rfl trivial (SetR.refl _ _ _ _)
        rintro _ rfl
        simp only [Act.put, List.setIfInBounds_toArray, List.set_cons_succ, List.set_cons_zero]
        refine ⟨?_, ?_⟩
        focus
          unfold opGoal
          rw [if_pos (by kernel_rfl)]
          intro x hb hd K hk
          clear hd
          go_wp2_with fail
          exact hk _ _ rfl trivial (SetR.refl _ _ _ _)
        rintro _ rfl
        simp only [Act.put, List.setIfInBounds_toArray, List.set_cons_succ, List.set_cons_zero]
        refine ⟨?_, ?_⟩
        focus
          unfold opGoal
          rw [if_pos (by kernel_rfl)]
          intro x hb hd K hk
          clear hd
          go_wp2_with fail
          exact hk _ _ rfl trivial (SetR.refl _ _ _ _)
        rintro _ rfl
        simp only [Act.put, List.setIfInBounds_toArray, List.set_cons_succ, List.set_cons_zero]
        refine ⟨?_, ?_⟩
        focus
          unfold opGoal
          rw [if_pos (by kernel_rfl)]
          intro x hb hd K hk
          clear hd
          have l0 := hb.other HCU.out (by omega) hc2
          go_wp2_with fail
          exact hk _ _ rfl trivial (SetR.refl _ _ _ _)
        rintro _ rfl
        simp only [Act.put, List.setIfInBounds_toArray, List.set_cons_succ, List.set_cons_zero]
        refine ⟨?_, ?_⟩
        focus
          unfold opGoal
          rw [if_pos (by kernel_rfl)]
          intro x hb hd K hk
          clear hd
          go_wp2_with fail
          exact hk _ _ rfl trivial (SetR.refl _ _ _ _)
        rintro _ rfl
        simp only [Act.put, List.setIfInBounds_toArray, List.set_cons_succ, List.set_cons_zero]
        refine ⟨?_, ?_⟩
        focus
          unfold opGoal
          rw [if_pos (by kernel_rfl)]
          intro x hb hd K hk
          clear hd
          go_wp2_with fail
          exact hk _ _ rfl trivial (SetR.refl _ _ _ _)
        rintro _ rfl
        simp only [Act.put, List.setIfInBounds_toArray, List.set_cons_succ, List.set_cons_zero]
        refine ⟨?_, ?_⟩
        focus
          unfold opGoal
          rw [if_pos (by kernel_rfl)]
          intro x hb hd K hk
          clear hd
          go_wp2_with fail
          exact hk _ _ rfl trivial (SetR.refl _ _ _ _)
        rintro _ rfl
        simp only [Act.put, List.setIfInBounds_toArray, List.set_cons_succ, List.set_cons_zero]
        refine ⟨?_, ?_⟩
        focus
          unfold opGoal
          rw [if_pos (by kernel_rfl)]
          intro x hb hd K hk
          clear hd
          obtain ⟨cu, hcu, hcu2⟩ : ∃ cu, Blk x g 193 cu ∧ (cu = cur ∨ cu = cur.setIfInBounds (k * 3) (.int .i64 ((c : Int) + s))) := (hb.blk HCU.out).elim (fun h => ⟨_, h, .inl rfl⟩) (fun h => ⟨_, h, .inr rfl⟩)
          have hlt : k * 3 < cu.size := by
            have := HC0.out.1
            rcases hcu2 with rfl | rfl
            · exact this
            · simpa using this
          have z0 := hcu.cell (k * 3)
          rw [Array.getElem?_eq_getElem hlt] at z0
          have q0 := hcu.frozen (k * 3)
          have H1 := Lib.hid hcu
          have H2 := Lib.hid hcu2
          clear hcu hcu2
          generalize cu[k * 3] = u9 at *
          clear hlt
          go_wp2_with fail
          refine hk undef _ trivial ?_ (SetR.set H1.out)
          have h3 := H1.out.set (k * 3) (.int .i64 ((c : Int) + s))
          rcases H2.out with h | h
          · rw [h] at h3; exact h3
          · rw [h, Array.setIfInBounds_setIfInBounds] at h3; exact h3
        rintro v9 _
        simp only [Act.put]
        intro x hbx hf
        simp only [List.drop_succ_cons, List.drop_zero]
        have hB : Blk x g 193 (cur.setIfInBounds (k * 3) (.int .i64 ((c : Int) + s))) := hf 16 _ _ rfl rfl
        clear hf
        have hc22 : (cur.setIfInBounds (k * 3) (.int .i64 ((c : Int) + s)))[k * 3 + 2]? = some (.int .i64 ((q : Int) + 1)) := by rw [Array.getElem?_setIfInBounds_ne (by omega)]; exact hc2
        have z2 := hB.cell (k * 3 + 2)
        rw [hc22] at z2
        have q2 := hB.frozen (k * 3 + 2)
        have HBX := Lib.hid hB
        have HSX := Lib.hid hbx
        clear hB hc22 hbx
        go_upto_region 11 with (fail)
        obtain ⟨F, hF⟩ : ∃ F, F = x.setCell ⟨g, k * 3 + 2, none⟩ (.int .i64 q) := ⟨_, rfl⟩
        rw [← hF]
        have hBF : Blk F g 193 ((cur.setIfInBounds (k * 3) (.int .i64 ((c : Int) + s))).setIfInBounds (k * 3 + 2) (.int .i64 q)) := by rw [hF]; exact HBX.out.set _ _
        have hbF : Below w.heap.size w F := by
          rw [hF]
          exact (hbx.trans (HSX.out.1.mono hg)).setCell hg _
        have HE2 := Lib.hid (HE.out)
        have HOF := Lib.hid (show F.ownsRow w.heap.size 193 3 (.slice (some ⟨g, 0, none⟩) (k + 1) cap) (k + 1) ((G0 ++ [(c + s, ts)]).flatMap lvc) by
          have h9 := own_set2 (a' := .int .i64 ((c : Int) + s)) (d' := .int .i64 q) HOW.out HK.out HCR.out hBF
          have he : lvc (c + s, ts) = [.int .i64 ((c : Int) + s), .int .i64 ((c : Int) + (flatAll (t' :: ts)).length), .int .i64 q] := by
            have h1 := HS.out
            have h2 := HQ.out
            simp only [lvc, flatAll_cons, List.length_append, ← h1, ← h2, List.cons.injEq, Value.int.injEq, true_and, and_true]
            omega
          rw [lv_snoc, he]
          exact h9)
        have n3F := cell_keep hbF HN3.out
        rw [← HS.out] at n3F
        have DW := Lib.hid (down_any (some ⟨b, o, none⟩) cp m c s (flat t) F (hrd.below hbF) HM.out (by rw [← HM.out]; exact HCL.out) (by omega) (by omega))
        rw [HND.out] at DW
        simp only at DW
        have hcm : c < m := by omega
        have hkm : k + 2 ≤ m + 1 := by omega
        clear hF hBF z2 q2 n3x hc2
        go_wp2_with fail
        refine DW.out.mono ?_
        rintro e w5 ⟨rfl, hb5⟩
        have hown5 := own_below HOF.out hb5
        have hb5w := hbF.trans (hb5.mono hbF.size)
        clear DW n3F
        go_wp2_with (at_builtin; refine wpList_push rfl _ _ _ rfl Tryd.underlying195 hi hz0 hz1 hz2 rfl (by decide) hown5 rfl rfl rfl (by simp [Value.oneCell']) (by omega) (by decide) hb5w.size ?_; intro A6 c6 w6 hown6 hb6 hoo6)
        obtain ⟨g6, hg6, rfl⟩ : ∃ g6, w.heap.size ≤ g6 ∧ A6 = some ⟨g6, 0, none⟩ := by
          rcases hown6.2 with ⟨he, h0⟩ | ⟨g9, cap9, cur9, he, hb9, _⟩
          · omega
          · injection he with he1 _ _
            exact ⟨g9, hb9, he1⟩
        have he6 : List.flatMap lvc (G0 ++ [(c + s, ts)]) ++ (#[Value.int IntKind.i64 ((c : Int) + 1), Value.int IntKind.i64 ((c : Int) + s), Value.int IntKind.i64 t'.kids.length] : Array Value).toList = (G0 ++ [(c + s, ts)] ++ [(c + 1, t'.kids)]).flatMap lvc := by
          rw [lv_snoc (G0 ++ [(c + s, ts)])]
          have h1 := HS.out
          have h2 := flat_kids_le t'
          simp only [lvc, List.append_cancel_left_eq, List.cons.injEq, Value.int.injEq, true_and, and_true]
          omega
        rw [he6] at hown6
        have hmax : max (most : Int) ((k : Int) + 1 + 1) = ((max most (k + 2) : Nat) : Int) := by omega
        have hpush := depF_push (G0.map (·.2)) t' ts most
        rw [List.length_map, ← HK.out] at hpush
        have hDD := HD.out
        rw [flat_mapSnd] at hDD
        have hk2 : max most (k + 2) ≤ m := by
          have h9 := hpush.trans hDD
          omega
        go_roundw
        case rel =>
          refine ⟨max most (k + 2), k + 2, g6, c6, G0 ++ [(c + s, ts)] ++ [(c + 1, t'.kids)], ?_, rfl, Lib.hid (by rw [HK.out]; simp), by omega, by omega, hg6, hown6, hb5w.trans hb6, Lib.hid ?_, Lib.hid ?_⟩
          · rw [hmax]
          · intro y hy
            simp only [List.mem_append, List.mem_singleton] at hy
            rcases hy with (hy | rfl) | rfl
            · exact HF.out y (List.mem_append_left _ hy)
            · rw [HS.out]; exact HF1.out
            · exact HF2.out
          · rw [← hDD, ← hpush]
            simp
        case measure =>
          rw [HMS.out, stMeas_own hown6 (by rw [HK.out]; simp)]
          exact wtG_push _ _ _ _ _ _
end Go.Proofs.YtclifaehbdeldaaDoor
