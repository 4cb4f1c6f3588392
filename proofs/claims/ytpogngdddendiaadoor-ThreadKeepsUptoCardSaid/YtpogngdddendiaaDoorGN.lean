/- append of one element onto a row of the call's own that is full: the new row lies in the block just made. No condition. -/
import Derived.Test.YtpogngdddendiaaDoorBase
import Derived.Maps.AppendAt
import Derived.Deep.DeepAppendRoom
import Derived.Test.YtpogngdddendiaaDoorGL
import Derived.Test.YtpogngdddendiaaDoorGA
import Derived.Outline
import Derived.Handy
set_option linter.unusedVariables false
set_option linter.unusedSimpArgs false
namespace Go.Proofs.YtpogngdddendiaaDoor
open Go.RowKit

section
variable {P : Program} (w : World)
theorem run_append_full (base : Nat) (t ty e : TypeId) (i : TypeInfo) (z : Value) (size bytes : Nat) (ht : P.underlying t = some (.slice e)) (hi : P.info? e = some i) (hz : i.zero = some z)
    (hsize : i.size = size) (hby : i.bytes = bytes) (hzs : z.cells.size = size) (hsz : 0 < size)
    (v : Value) (n cap : Nat) (A : Option Addr) (hv : v = .slice A n cap) (xs : List Value) (hown : w.ownsRow base e size v n xs)
    (a : Addr) (m c : Nat) (news : List Value) (hl : news.length = m * size) (hnews : ∀ j u, news[j]? = some u → w.cell? (a.add j) = some u)
    (h63 : n + m ≤ maxLen) (hbytes : (n + m) * bytes ≤ 140737488355328) (hbase : base ≤ w.heap.size) (hfull : cap < n + m) :
    ∃ c' w', (Builtin.append_ #[t, t] ty #[v, .slice (some a) m c]).run P w = .ok (.slice (some ⟨w.heap.size, 0, none⟩) (n + m) c') w' ∧ w'.ownsRow base e size (.slice (some ⟨w.heap.size, 0, none⟩) (n + m) c') (n + m) (xs ++ news) ∧ w.grownBy w' none := by
  subst hsize
  subst hby
  have hsmall : n + m ≤ 9223372036854775807 := by simp only [maxLen] at h63; omega
  have hlen : (xs ++ news).length = (n + m) * i.size := by rw [List.length_append, hown.1, hl, Nat.add_mul]
  have grown : ∀ (old : Nat), old < n + m →
      (w.drew.alloc (.cells (xs.toArray ++ news.toArray ++ Builtin.zeroCells z.cells (grownCap w (n + m) old e - (n + m))) e)).ownsRow base e i.size
        (.slice (some ⟨w.heap.size, 0, none⟩) (n + m) (grownCap w (n + m) old e)) (n + m) (xs ++ news) ∧
      w.grownBy (w.drew.alloc (.cells (xs.toArray ++ news.toArray ++ Builtin.zeroCells z.cells (grownCap w (n + m) old e - (n + m))) e)) none := by
    intro old ho
    have hge := grownCap_ge w (n + m) old e
    have hcm : grownCap w (n + m) old e ≤ maxLen := grownCap_le_maxLen w (n + m) old e h63
    refine ⟨⟨hlen, .inr ⟨w.heap.size, _, _, rfl, hbase, heap_alloc_new w.drew _, hge, hcm, ?_, ?_⟩⟩, ⟨rfl, rfl, rfl, by simp, fun k hk _ => _root_.Go.heap_alloc_old w.drew _ hk⟩⟩
    · simp only [Array.size_append, List.size_toArray, size_zeroCells, hzs, hown.1, hl, ← Nat.add_mul]
      congr 1
      omega
    · simp only [Array.toList_append, List.append_assoc]
      rw [← List.append_assoc, ← hlen]
      exact List.take_left
  rcases hown.2 with ⟨hv0, rfl⟩ | ⟨g, cap', cur, hv0, hbg, hg, hnc, hcm, hcs, htake⟩
  · rw [hv] at hv0
    cases hv0
    subst hv
    have hx : xs = [] := List.eq_nil_of_length_eq_zero (by simpa using hown.1)
    subst hx
    have hr := run_append_nil (P := P) w t ty e i z ht hi hz a m c news hl hnews (by omega) (by omega) (by have hb := hbytes; simp only [Nat.zero_add] at hb; omega)
    have hgr := grown 0 (by omega)
    simp only [Nat.zero_add, List.nil_append, Array.empty_append] at hgr ⊢
    exact ⟨_, _, hr, hgr.1, hgr.2⟩
  · rw [hv] at hv0
    cases hv0
    subst hv
    have holds : ∀ j u, xs[j]? = some u → w.cell? ((⟨g, 0, none⟩ : Addr).add j) = some u := hown.cells (g := g) rfl
    have hr := run_append_grow (P := P) w t ty e i z ht hi hz ⟨g, 0, none⟩ n cap xs hown.1 holds a m c news hl hnews (by omega) (by omega) (growslice_fits (by omega) hbytes)
    have hgr := grown cap (by omega)
    exact ⟨_, _, hr, hgr.1, hgr.2⟩
end
section
variable {P : Program} {ops : Array Oper} {Q : Exit → Act → World → Prop} {a : Act} {w : World} {rest : List Oper} {o : Oper}
/-- append of one element just laid: in its place where there is room, else in the newest block, and then all that was there stands. -/
theorem wpList_push2 (hgd : o.guard = none) (s x : Operand) (t : TypeId) (ho : o.op = .call { callee := .builtin .append, args := #[s, x], argTypes := #[t, t] })
    {e : TypeId} {i : TypeInfo} {z : Value} {sz bytes : Nat} (ht : P.underlying t = some (.slice e)) (hi : P.info? e = some i) (hz : i.zero = some z) (hsize : i.size = sz) (hby : i.bytes = bytes) (hzs : z.cells.size = sz) (hsz : 0 < sz)
    {base n cap : Nat} {A : Option Addr} {xs : List Value} {cs : List Value} {ad : Addr} (hown : w.ownsRow base e sz (.slice A n cap) n xs) (hs : a.eval s = .slice A n cap) (hx : a.eval x = .slice (some ad) 1 1) (hcs : cs.length = sz) (hnews : ∀ j u, cs[j]? = some u → w.cell? (ad.add j) = some u) (h1 : ∀ u ∈ cs, u.oneCell' = true)
    (hbytes : (n + 1) * bytes ≤ 140737488355328) (hb0 : 0 < bytes) (hbase : base ≤ w.heap.size)
    (h : ∀ A' c' w', w'.ownsRow base e sz (.slice A' (n + 1) c') (n + 1) (xs ++ cs) → Below base w w' → Others [e] w w' →
      ((n < cap ∧ A' = A ∧ c' = cap) ∨ (cap ≤ n ∧ A' = some ⟨w.heap.size, 0, none⟩ ∧ Below w.heap.size w w')) → wpList P ops Q rest (a.put o.dst (.slice A' (n + 1) c')) w') :
    wpList P ops Q (o :: rest) a w := by
  refine wpList_plain hgd fun K hK => ?_
  by_cases hroom : n + 1 ≤ cap
  · obtain ⟨g, rfl⟩ : ∃ g, A = some ⟨g, 0, none⟩ := by
      rcases hown.2 with ⟨he, _⟩ | ⟨g, _, _, he, _⟩
      · injection he with _ _ he3; omega
      · injection he with he1 _ _; exact ⟨g, he1⟩
    obtain ⟨w', hr, h2, h3⟩ := run_append_own_spare (P := P) w base t o.type e i sz ht hi hsize g n cap xs hown ad 1 1 cs (by omega) hnews h1 hroom
    have hb : Below base w w' := (Below.refl base w).grown h3 hbase (fun k hk => by cases hk; exact (hown.lt g rfl).1)
    have ho2 : Others [e] w w' := Others.grown hown (by simpa [Value.ownBlock] using h3) (by simp)
    unfold Oper.wp execOp
    simp only [ho, resolve, invoke, builtin, Sem.run_bind, Sem.run_pure, Result.andThen_ok, List.map_toArray, List.map_cons, List.map_nil, hs, hx, hr]
    exact hK _ _ (h _ _ w' h2 hb ho2 (.inl ⟨by omega, rfl, rfl⟩))
  · have h63 : n + 1 ≤ maxLen := by have := Nat.le_mul_of_pos_right (n + 1) hb0; simp only [maxLen]; omega
    obtain ⟨c', w', hr, h2, h3⟩ := run_append_full (P := P) w base t o.type e i z sz bytes ht hi hz hsize hby hzs hsz _ n cap A rfl xs hown ad 1 1 cs (by omega) hnews h63 hbytes hbase (by omega)
    have hb : Below w.heap.size w w' := (Below.refl _ w).grown h3 (Nat.le_refl _) (fun k hk => by cases hk)
    unfold Oper.wp execOp
    simp only [ho, resolve, invoke, builtin, Sem.run_bind, Sem.run_pure, Result.andThen_ok, List.map_toArray, List.map_cons, List.map_nil, hs, hx, hr]
    exact hK _ _ (h _ _ w' h2 (hb.mono hbase) (Others.of_below hb) (.inr ⟨by omega, rfl, hb⟩))
end
end Go.Proofs.YtpogngdddendiaaDoor

/- The walks over the writer's least methods: where it stands, one instruction more, how high the stack is. Bounds on the lengths. -/
set_option linter.unusedVariables false
set_option linter.unusedSimpArgs false
namespace Go.Proofs.YtpogngdddendiaaDoor
open Go.RowKit

/-- The writer, its row at A with so much room. -/
def WrA (w : World) (base g : Nat) (X : List Ins) (now high : Nat) (A : Option Addr) (c : Nat) : Prop :=
  (base ≤ g ∧ now ≤ high) ∧ Blk w g 72 #[.slice A X.length c, .int .i64 now, .int .i64 high] ∧ w.ownsRow base 36 4 (.slice A X.length c) X.length (X.flatMap insc)
theorem WrI.at_ {w : World} {base g : Nat} {X : List Ins} {now high : Nat} (h : WrI w base g X now high) : ∃ A c, WrA w base g X now high A c := by
  obtain ⟨h0, v, h1, A, c, rfl, h2⟩ := h
  exact ⟨A, c, h0, h1, h2⟩
theorem WrA.i {w : World} {base g : Nat} {X : List Ins} {now high : Nat} {A : Option Addr} {c : Nat} (h : WrA w base g X now high A c) : WrI w base g X now high := ⟨h.1, _, h.2.1, A, c, rfl, h.2.2⟩
theorem WrA.below {w w' : World} {base g : Nat} {X : List Ins} {now high : Nat} {A : Option Addr} {c : Nat} (h : WrA w base g X now high A c) (hb : Below w.heap.size w w') : WrA w' base g X now high A c := ⟨h.1, h.2.1.below hb, own_below h.2.2 hb⟩
theorem Others.up {ts ts' : List TypeId} {w w' : World} (h : Others ts w w') (hs : ∀ t ∈ ts, t ∈ ts') : Others ts' w w' := h.mono hs
theorem frw_set {w : World} {base g : Nat} {t : TypeId} {cs : Array Value} (hg : Blk w g t cs) (ht : t ∈ tsW) (hb : base ≤ g) (hw : base ≤ w.heap.size) (i : Nat) (u : Value) : FrW base w (w.setCell ⟨g, i, none⟩ u) :=
  ⟨Others.setCell (p := ⟨g, i, none⟩) hg ht u, (But.set (B := g) w i u).below hb hw⟩

set_option maxHeartbeats 2000000 in
theorem here_any {base g : Nat} {X : List Ins} {now high : Nat} (w : World) (h : WrI w base g X now high) : Calls Tryd.prog 65 #[.pointer (some ⟨g, 0, none⟩)] w (fun e w' => e = .returned (.int .i64 X.length) ∧ w' = w) := by
  obtain ⟨A, c, h0, h1, h2⟩ := h.at_
  have c0 := h1.cell 0
  simp only [List.getElem?_toArray, List.getElem?_cons_zero] at c0
  generalize X.length = n at *
  clear h h1 h2
  go_enter Tryd.func65, Tryd.ntmps65
  go_wp2_with fail
  go_ret
  exact ⟨rfl, rfl⟩
/-- An instruction more. -/
def AddRet (base g : Nat) (X : List Ins) (now high : Nat) (A : Option Addr) (c : Nat) (i : Ins) (w : World) (e : Ending) (w' : World) : Prop :=
  ∃ A' c', e = .returned (.int .i64 X.length) ∧ WrA w' base g (X ++ [i]) now high A' c' ∧ FrW base w w' ∧ ((X.length < c ∧ A' = A ∧ c' = c) ∨ (c ≤ X.length ∧ A' = some ⟨w.heap.size, 0, none⟩ ∧ But g w w'))
set_option maxHeartbeats 2000000 in
theorem add_any {base g : Nat} {X : List Ins} {now high : Nat} {A : Option Addr} {c lb : Nat} (i : Ins) (w : World) (h : WrA w base g X now high A c) (hX : X.length ≤ 1000000000) (hl : ∀ j u, (insc i)[j]? = some u → w.cell? ⟨lb, j, none⟩ = some u) (hbw : base ≤ w.heap.size) :
    Calls Tryd.prog 69 #[.pointer (some ⟨g, 0, none⟩), .slice (some ⟨lb, 0, none⟩) 1 1] w (AddRet base g X now high A c i w) := by
  obtain ⟨i0, hi, hz0, hz1, hz2⟩ := info_parts infoIns
  obtain ⟨h0, h1, h2⟩ := h
  have c0 := h1.cell 0
  have f0 := h1.frozen 0
  simp only [List.getElem?_toArray, List.getElem?_cons_zero] at c0
  have HB := Lib.hid h1
  have HL := Lib.hid (show ∀ j u, (insc i)[j]? = some u → w.cell? ((⟨lb, 0, none⟩ : Addr).add j) = some u from fun j u hu => by rw [Addr.add_lit, Nat.zero_add]; exact hl j u hu)
  obtain ⟨n, hn⟩ : ∃ n, n = X.length := ⟨_, rfl⟩
  rw [← hn] at c0 h2 HB hX
  have HN := Lib.hid hn
  rw [show AddRet base g X now high A c i w = fun e w' => ∃ A' c', e = .returned (.int .i64 n) ∧ WrA w' base g (X ++ [i]) now high A' c' ∧ FrW base w w' ∧ ((n < c ∧ A' = A ∧ c' = c) ∨ (c ≤ n ∧ A' = some ⟨w.heap.size, 0, none⟩ ∧ But g w w')) from by funext e w'; unfold AddRet; rw [hn]]
  clear hl hn h1
  go_enter Tryd.func69, Tryd.ntmps69
  go_wp2_with (at_builtin; refine wpList_push2 rfl _ _ _ rfl Tryd.underlying27 hi hz0 hz1 hz2 rfl (by decide) h2 rfl rfl (insc_len i) HL.out (insc_one i) (by omega) (by decide) hbw ?_; intro A2 c2 w2 hown2 hb2 hoo2 hloc; have d0 := (HB.out.others hoo2 (by decide)).cell 0; have e0 := (HB.out.others hoo2 (by decide)).frozen 0; simp only [List.getElem?_toArray, List.getElem?_cons_zero] at d0; have HO2 := Lib.hid hown2; have HB2 := Lib.hid hb2; have HQ2 := Lib.hid hoo2; have HLC := Lib.hid hloc; clear hown2 hb2 hoo2 hloc)
  have hG := HB.out.others HQ2.out (by decide)
  have hS := hG.set 0 (.slice A2 (n + 1) c2)
  have hB := But.set (B := g) w2 0 (.slice A2 (n + 1) c2)
  have d1 := hS.cell 0
  simp only [List.getElem?_toArray, List.setIfInBounds_toArray, List.set_cons_zero, List.getElem?_cons_zero] at d1
  have HFIN := Lib.hid (show ∃ A' c', WrA (w2.setCell ⟨g, 0, none⟩ (.slice A2 (n + 1) c2)) base g (X ++ [i]) now high A' c' ∧ FrW base w (w2.setCell ⟨g, 0, none⟩ (.slice A2 (n + 1) c2)) ∧ ((n < c ∧ A' = A ∧ c' = c) ∨ (c ≤ n ∧ A' = some ⟨w.heap.size, 0, none⟩ ∧ But g w (w2.setCell ⟨g, 0, none⟩ (.slice A2 (n + 1) c2)))) from by
    refine ⟨A2, c2, ⟨h0, ?_, ?_⟩, ?_, ?_⟩
    · rw [List.length_append, ← HN.out]
      simpa using hS
    · rw [List.length_append, ← HN.out, List.flatMap_append]
      simpa using own_but HO2.out hB hG (by decide)
    · exact (⟨HQ2.out.up (by simp [tsW]), HB2.out⟩ : FrW base w w2).trans (frw_set hG (by simp [tsW]) h0.1 (Nat.le_trans hbw HB2.out.size) 0 _)
    · rcases HLC.out with h | ⟨h3, h1, h2⟩
      · exact .inl h
      · exact .inr ⟨h3, h1, (But.of h2).trans hB⟩)
  clear hG hS hB d0 e0 c0 f0
  go_wp2_with fail
  go_ret
  obtain ⟨A', c', h1, h2, h3⟩ := HFIN.out
  exact ⟨A', c', rfl, h1, h2, h3⟩
def OpRet (base g : Nat) (X : List Ins) (now high : Nat) (A : Option Addr) (c : Nat) (i : Ins) (w : World) (e : Ending) (w' : World) : Prop :=
  ∃ A' c', e = .returned (.int .i64 X.length) ∧ WrA w' base g (X ++ [i]) now high A' c' ∧ FrW base w w' ∧ ((X.length < c ∧ A' = A ∧ c' = c) ∨ (c ≤ X.length ∧ A' = some ⟨w.heap.size + 1, 0, none⟩ ∧ But g w w'))
set_option maxHeartbeats 2000000 in
theorem op_any {base g : Nat} {X : List Ins} {now high : Nat} {A : Option Addr} {c : Nat} (op a b : Int) (s : List UInt8) (w : World) (h : WrA w base g X now high A c) (hX : X.length ≤ 1000000000) (hbw : base ≤ w.heap.size) :
    Calls Tryd.prog 34 #[.pointer (some ⟨g, 0, none⟩), .int .i64 op, .int .i64 a, .int .i64 b, .string ⟨s.toArray⟩] w (OpRet base g X now high A c ⟨op, a, b, s⟩ w) := by
  obtain ⟨w1, hw1⟩ : ∃ w1, w1 = w.alloc (.cells #[.int .i64 op, .int .i64 a, .int .i64 b, .string ⟨s.toArray⟩] 36) := ⟨_, rfl⟩
  have hb1 : Below w.heap.size w w1 := by rw [hw1]; exact (Below.refl _ _).alloc (Nat.le_refl _) _
  have hs1 : w1.heap.size = w.heap.size + 1 := by rw [hw1]; simp
  have HA := Lib.hid (add_any (lb := w.heap.size) ⟨op, a, b, s⟩ w1 (h.below hb1) hX (fun j u hu => by
    rw [hw1, cell_of_row _ _ j _ _ (0, 0) (heap_alloc_new w _)]
    simpa [insc] using hu) (Nat.le_trans hbw hb1.size))
  have HW := Lib.hid hw1
  have HB := Lib.hid hb1
  have HS := Lib.hid hs1
  clear hw1 hb1 hs1
  go_enter Tryd.func34, Tryd.ntmps34
  go_wp2_with fail
  rw [← HW.out]
  refine HA.out.mono ?_
  rintro e w2 ⟨A', c', rfl, h1, h2, h3⟩
  have HFIN := Lib.hid (show WrA w2 base g (X ++ [⟨op, a, b, s⟩]) now high A' c' ∧ FrW base w w2 ∧ ((X.length < c ∧ A' = A ∧ c' = c) ∨ (c ≤ X.length ∧ A' = some ⟨w.heap.size + 1, 0, none⟩ ∧ But g w w2)) from
    ⟨h1, (FrW.of HB.out hbw).trans h2, h3.imp id fun ⟨e0, e1, e2⟩ => ⟨e0, by rw [e1, HS.out], (But.of HB.out).trans e2⟩⟩)
  clear h1 h2 h3 HA
  go_wp2_with fail
  go_ret
  exact ⟨A', c', rfl, HFIN.out⟩
/-- So many lists more on the stack. -/
def PushRet (base g : Nat) (X : List Ins) (now high : Nat) (w : World) (e : Ending) (w' : World) : Prop := e = .returned (.tuple #[]) ∧ WrI w' base g X now high ∧ FrW base w w'
set_option maxHeartbeats 2000000 in
theorem push_any {base g : Nat} {X : List Ins} {now high m : Nat} (n : Int) (w : World) (h : WrI w base g X now high) (hm : (now : Int) + n = m) (hnow : now ≤ 1000000000) (hm9 : m ≤ 1000000000) (hhi : high ≤ 1000000000) (hbw : base ≤ w.heap.size) :
    Calls Tryd.prog 94 #[.pointer (some ⟨g, 0, none⟩), .int .i64 n] w (PushRet base g X m (max high m) w) := by
  obtain ⟨⟨h0, hnh⟩, v, h1, hv⟩ := h
  have c1 := h1.cell 1
  have f1 := h1.frozen 1
  simp only [List.getElem?_toArray, List.getElem?_cons_zero, List.getElem?_cons_succ] at c1
  have h2 := h1.set 1 (.int .i64 m)
  have f2 := h2.frozen 2
  have d1 := h2.cell 1
  have d2 := h2.cell 2
  simp only [List.getElem?_toArray, List.setIfInBounds_toArray, List.set_cons_zero, List.set_cons_succ, List.getElem?_cons_zero, List.getElem?_cons_succ] at d1 d2
  have hB1 := But.set (B := g) w 1 (.int .i64 m)
  have HQ := Lib.hid h2
  have HFIN := Lib.hid (show ∀ y, Below (w.setCell ⟨g, 1, none⟩ (.int .i64 m)).heap.size (w.setCell ⟨g, 1, none⟩ (.int .i64 m)) y → PushRet base g X m (max high m) w (.returned (.tuple #[])) (y.setCell ⟨g, 2, none⟩ (.int .i64 (max high m : Nat))) from fun y hy => by
    have h2y := h2.below hy
    have h3 := h2y.set 2 (.int .i64 (max high m : Nat))
    have hB2 := But.set (B := g) y 2 (.int .i64 (max high m : Nat))
    have hsz := Nat.le_trans hbw (Nat.le_trans hB1.size hy.size)
    refine ⟨rfl, ⟨⟨h0, Nat.le_max_right _ _⟩, v, by simpa using h3, (let ⟨A, c, e1, e2⟩ := hv; ⟨A, c, e1, own_but (own_below (own_but e2 hB1 h1 (by decide)) hy) hB2 h2y (by decide)⟩)⟩, ?_⟩
    exact ((frw_set h1 (by simp [tsW]) h0 hbw 1 _).trans (FrW.of hy (Nat.le_trans hbw hB1.size))).trans (frw_set h2y (by simp [tsW]) h0 hsz 2 _))
  have hww : wrap64 ((now : Int) + n) = m := by rw [hm]; unfold wrap64; omega
  have hmx : max (high : Int) (m : Int) = ((max high m : Nat) : Int) := by omega
  have hmx2 : max high m ≤ 1000000000 := by omega
  generalize max high m = mx at *
  clear h1 hv h2 hB1 hm f2
  go_enter Tryd.func94, Tryd.ntmps94
  go_upto_region 1 with (fail)
  simp only [hww]
  generalize w.setCell ⟨g, 1, none⟩ (.int .i64 m) = w2 at *
  clear hww c1 f1
  apply wp_region_relA 12 [eqT _, eqT _, eqT _, eqT _, eqT _, eqT _, eqT _, eqT _, eqT _, eqT _, eqT _, eqT _] (by kernel_rfl) (by kernel_rfl) (by kernel_rfl) rfl
  focus
    refine ⟨?_, ?_⟩
    focus
      unfold opGoal
      rw [if_pos (by kernel_rfl)]
      intro x hb hd K hk
      clear hd
      go_wp2_with fail
      exact hk _ _ rfl trivial (Below.refl _ _)
    rintro _ rfl
    simp only [Act.put, List.setIfInBounds_toArray, List.set_cons_succ, List.set_cons_zero]
    refine ⟨?_, ?_⟩
    focus
      unfold opGoal
      rw [if_pos (by kernel_rfl)]
      intro x hb hd K hk
      clear hd
      go_wp2_with fail
      exact hk _ _ rfl trivial (Below.refl _ _)
    rintro _ rfl
    simp only [Act.put, List.setIfInBounds_toArray, List.set_cons_succ, List.set_cons_zero]
    refine ⟨?_, ?_⟩
    focus
      unfold opGoal
      rw [if_pos (by kernel_rfl)]
      intro x hb hd K hk
      clear hd
      go_wp2_with fail
      exact hk _ _ rfl trivial (Below.refl _ _)
    rintro _ rfl
    simp only [Act.put, List.setIfInBounds_toArray, List.set_cons_succ, List.set_cons_zero]
    refine ⟨?_, ?_⟩
    focus
      unfold opGoal
      rw [if_pos (by kernel_rfl)]
      intro x hb hd K hk
      clear hd
      go_wp2_with fail
      exact hk _ _ rfl trivial (Below.refl _ _)
    rintro _ rfl
    simp only [Act.put, List.setIfInBounds_toArray, List.set_cons_succ, List.set_cons_zero]
    refine ⟨?_, ?_⟩
    focus
      unfold opGoal
      rw [if_pos (by kernel_rfl)]
      intro x hb hd K hk
      clear hd
      have l0 := cell_keep hb d2
      go_wp2_with fail
      exact hk _ _ rfl trivial (Below.refl _ _)
    rintro _ rfl
    simp only [Act.put, List.setIfInBounds_toArray, List.set_cons_succ, List.set_cons_zero]
    refine ⟨?_, ?_⟩
    focus
      unfold opGoal
      rw [if_pos (by kernel_rfl)]
      intro x hb hd K hk
      clear hd
      go_wp2_with fail
      exact hk _ _ rfl trivial (Below.refl _ _)
    rintro _ rfl
    simp only [Act.put, List.setIfInBounds_toArray, List.set_cons_succ, List.set_cons_zero]
    refine ⟨?_, ?_⟩
    focus
      unfold opGoal
      rw [if_pos (by kernel_rfl)]
      intro x hb hd K hk
      clear hd
      go_wp2_with fail
      exact hk _ _ rfl trivial (Below.refl _ _)
    rintro _ rfl
    simp only [Act.put, List.setIfInBounds_toArray, List.set_cons_succ, List.set_cons_zero]
    refine ⟨?_, ?_⟩
    focus
      unfold opGoal
      rw [if_pos (by kernel_rfl)]
      intro x hb hd K hk
      clear hd
      go_wp2_with fail
      exact hk _ _ rfl trivial (Below.refl _ _)
    rintro _ rfl
    simp only [Act.put, List.setIfInBounds_toArray, List.set_cons_succ, List.set_cons_zero]
    refine ⟨?_, ?_⟩
    focus
      unfold opGoal
      rw [if_pos (by kernel_rfl)]
      intro x hb hd K hk
      clear hd
      have l0 := cell_keep hb d1
      go_wp2_with fail
      exact hk _ _ rfl trivial (Below.refl _ _)
    rintro _ rfl
    simp only [Act.put, List.setIfInBounds_toArray, List.set_cons_succ, List.set_cons_zero]
    refine ⟨?_, ?_⟩
    focus
      unfold opGoal
      rw [if_pos (by kernel_rfl)]
      intro x hb hd K hk
      clear hd
      go_wp2_with fail
      all_goals
        refine hk (.int .i64 mx) _ ?_ trivial (Below.refl _ _)
        first | rfl | skip
    rintro _ rfl
    simp only [Act.put, List.setIfInBounds_toArray, List.set_cons_succ, List.set_cons_zero]
    refine ⟨?_, ?_⟩
    focus
      unfold opGoal
      rw [if_pos (by kernel_rfl)]
      intro x hb hd K hk
      clear hd
      go_wp2_with fail
      exact hk _ _ rfl trivial (Below.refl _ _)
    rintro _ rfl
    simp only [Act.put, List.setIfInBounds_toArray, List.set_cons_succ, List.set_cons_zero]
    refine ⟨?_, ?_⟩
    focus
      unfold opGoal
      rw [if_pos (by kernel_rfl)]
      intro x hb hd K hk
      clear hd
      go_wp2_with fail
      exact hk _ _ rfl trivial (Below.refl _ _)
    rintro _ rfl
    simp only [Act.put, List.setIfInBounds_toArray, List.set_cons_succ, List.set_cons_zero]
    intro y hby hf
    clear hf
    simp only [List.drop_succ_cons, List.drop_zero]
    have e2 := (HQ.out.below hby).frozen 2
    have d2 := (HQ.out.below hby).cell 2
    simp only [List.getElem?_toArray, List.setIfInBounds_toArray, List.set_cons_zero, List.set_cons_succ, List.getElem?_cons_zero, List.getElem?_cons_succ] at d2
    have HFY := Lib.hid (HFIN.out y hby)
    clear HFIN hby HQ
    go_wp2_with fail
    go_returns
    exact HFY.out
end Go.Proofs.YtpogngdddendiaaDoor

/- What the writer has written so far, and what stands meanwhile. No condition. -/
set_option linter.unusedVariables false
set_option linter.unusedSimpArgs false
namespace Go.Proofs.YtpogngdddendiaaDoor
open Go.RowKit

/-- It reads as these nodes, whatever the writer does. -/
def SlS (base : Nat) (w : World) (v : Value) (L : List Nd) : Prop := ∀ w', FrW base w w' → SlRd w' v L
theorem SlS.frw {base : Nat} {w w' : World} {v : Value} {L : List Nd} (h : SlS base w v L) (hf : FrW base w w') : SlS base w' v L := fun w'' h' => h w'' (hf.trans h')
theorem SlS.rd {base : Nat} {w : World} {v : Value} {L : List Nd} (h : SlS base w v L) : SlRd w v L := h w (FrW.refl _ _)
theorem SlS.old {base : Nat} {w : World} {v : Value} {L : List Nd} (h : SlRd w v L) (hb : w.heap.size ≤ base) : SlS base w v L := fun w' hf => h.below (hf.below.mono hb)
/-- A row of such. -/
def KdS (base : Nat) (w : World) (A : Option Addr) (ls : List (List Nd)) : Prop := ∃ vs, ∀ w', FrW base w w' → RdL w' 1 one1 A vs ∧ AllRd w' vs ls
theorem KdS.frw {base : Nat} {w w' : World} {A : Option Addr} {ls : List (List Nd)} (h : KdS base w A ls) (hf : FrW base w w') : KdS base w' A ls :=
  let ⟨vs, h⟩ := h
  ⟨vs, fun w'' h' => h w'' (hf.trans h')⟩
theorem KdS.at_ {base : Nat} {w : World} {A : Option Addr} {ls : List (List Nd)} (h : KdS base w A ls) {k : Nat} (hk : k < ls.length) :
    ∃ b o v, A = some ⟨b, o, none⟩ ∧ b < w.heap.size ∧ w.cell? ⟨b, o + k, none⟩ = some v ∧ SlS base w v ls[k] := by
  obtain ⟨vs, h⟩ := h
  obtain ⟨h1, h2⟩ := h w (FrW.refl _ _)
  have hkv : k < vs.length := by rw [h2.1]; exact hk
  obtain ⟨b, o, hA, hb, hc⟩ := h1 k hkv
  have := hc 0 _ rfl
  rw [Nat.mul_one, Nat.add_zero] at this
  exact ⟨b, o, vs[k], hA, hb, this, fun w' hf => (h w' hf).2.2 k hk _ (List.getElem?_eq_getElem _)⟩
theorem KdS.take {base : Nat} {w : World} {A : Option Addr} {ls : List (List Nd)} (h : KdS base w A ls) (n : Nat) : KdS base w A (ls.take n) := by
  obtain ⟨vs, h⟩ := h
  refine ⟨vs.take n, fun w' hf => ⟨(h w' hf).1.take n, by simp [(h w' hf).2.1], fun i hi v hv => ?_⟩⟩
  rw [List.length_take] at hi
  rw [List.getElem?_take, if_pos (by omega)] at hv
  rw [List.getElem_take]
  exact (h w' hf).2.2 i (by omega) v hv
theorem KdS.of_own {base B B' n c : Nat} {w : World} {A : Option Addr} {vs : List Value} {ls : List (List Nd)} (h : w.ownsRow B 22 1 (.slice A n c) n vs) (hn : n = ls.length) (ho : OwnAll w B' vs ls) : KdS base w A ls := by
  refine ⟨vs, fun w' hf => ?_⟩
  have h2 := own_frw h hf (by decide)
  exact ⟨(rd_one h2 (by rw [hn, ho.1])).1, (ho.frw hf).rd⟩

theorem insc_set_a : ∀ (L : List Ins) (p : Nat) (h : p < L.length) (a : Int), (L.flatMap insc).set (p * 4 + 1) (.int .i64 a) = (L.set p ⟨L[p].op, a, L[p].b, L[p].s⟩).flatMap insc
  | x :: L, 0, _, a => by simp [insc]
  | x :: L, p + 1, h, a => by
    have ih := insc_set_a L p (by simpa using h) a
    simp only [List.flatMap_cons, List.set_cons_succ, List.getElem_cons_succ]
    rw [← ih, show (p + 1) * 4 + 1 = (insc x).length + (p * 4 + 1) by simp [insc]; omega, List.set_append_right _ _ (by omega)]
    simp
theorem insc_set_b : ∀ (L : List Ins) (p : Nat) (h : p < L.length) (b : Int), (L.flatMap insc).set (p * 4 + 2) (.int .i64 b) = (L.set p ⟨L[p].op, L[p].a, b, L[p].s⟩).flatMap insc
  | x :: L, 0, _, a => by simp [insc]
  | x :: L, p + 1, h, a => by
    have ih := insc_set_b L p (by simpa using h) a
    simp only [List.flatMap_cons, List.set_cons_succ, List.getElem_cons_succ]
    rw [← ih, show (p + 1) * 4 + 2 = (insc x).length + (p * 4 + 2) by simp [insc]; omega, List.set_append_right _ _ (by omega)]
    simp

/-- So far: behind X these are written; the stack is so high, and was. -/
structure WrS (base g : Nat) (X : List Ins) (now0 high0 H : Nat) (w0 w : World) (now : Nat) (Y : List Ins) (high : Nat) : Prop where
  wr : WrI w base g (X ++ Y) now high
  lo : high0 ≤ high
  hi : high ≤ max high0 (now0 + H)
  ok : ∀ y ∈ Y, okI (X.length + Y.length) y = true
  fr : FrW base w0 w
  bw : base ≤ w.heap.size
section
variable {base g : Nat} {X : List Ins} {now0 high0 H : Nat} {w0 w w' : World} {now : Nat} {Y : List Ins} {high : Nat}
theorem WrS.start (h : WrI w base g X now0 high0) (hb : base ≤ w.heap.size) : WrS base g X now0 high0 H w w now0 [] high0 :=
  ⟨by rw [List.append_nil]; exact h, Nat.le_refl _, Nat.le_max_left _ _, fun y hy => (by cases hy), FrW.refl _ _, hb⟩
theorem WrS.below (h : WrS base g X now0 high0 H w0 w now Y high) (hb : Below w.heap.size w w') : WrS base g X now0 high0 H w0 w' now Y high :=
  ⟨h.wr.below hb, h.lo, h.hi, h.ok, h.fr.trans (FrW.of hb h.bw), Nat.le_trans h.bw hb.size⟩
theorem WrS.wrote (h : WrS base g X now0 high0 H w0 w now Y high) {now' hh sz : Nat} {e : Ending} (hw : Wrote base g (X ++ Y) now high now' hh sz w e w') (hH : now + hh ≤ now0 + H) :
    ∃ Z high', e = .returned (.tuple #[]) ∧ WrS base g X now0 high0 H w0 w' now' (Y ++ Z) high' ∧ Z.length ≤ sz ∧ FrW base w w' := by
  obtain ⟨Z, high', he, h1, h2, h3, h4, h5, h6⟩ := hw
  refine ⟨Z, high', he, ⟨by rw [← List.append_assoc]; exact h1, Nat.le_trans h.lo h2, ?_, fun y hy => ?_, h.fr.trans h6, Nat.le_trans h.bw h6.below.size⟩, h4, h6⟩
  · have := h.hi
    omega
  · rw [List.length_append] at h5 ⊢
    rcases List.mem_append.1 hy with hy | hy
    · exact okI_mono (by omega) (h.ok y hy)
    · exact okI_mono (by omega) (h5 y hy)
theorem WrS.op (h : WrS base g X now0 high0 H w0 w now Y high) {A : Option Addr} {c : Nat} {i : Ins} {e : Ending} (ho : OpRet base g (X ++ Y) now high A c i w e w') (hi : okI (X.length + Y.length + 1) i = true) :
    e = .returned (.int .i64 ((X.length + Y.length : Nat) : Int)) ∧ WrS base g X now0 high0 H w0 w' now (Y ++ [i]) high ∧ FrW base w w' := by
  obtain ⟨A', c', he, h1, h2, _⟩ := ho
  refine ⟨by rw [he, List.length_append], ⟨by rw [← List.append_assoc]; exact h1.i, h.lo, h.hi, fun y hy => ?_, h.fr.trans h2, Nat.le_trans h.bw h2.below.size⟩, h2⟩
  rw [List.length_append, List.length_singleton, ← Nat.add_assoc]
  rcases List.mem_append.1 hy with hy | hy
  · exact okI_mono (by omega) (h.ok y hy)
  · rw [List.mem_singleton.1 hy]; exact hi
theorem WrS.push (h : WrS base g X now0 high0 H w0 w now Y high) {m : Nat} {e : Ending} (ho : PushRet base g (X ++ Y) m (max high m) w e w') (hm : m ≤ now0 + H) :
    e = .returned (.tuple #[]) ∧ WrS base g X now0 high0 H w0 w' m Y (max high m) ∧ FrW base w w' := by
  obtain ⟨he, h1, h2⟩ := ho
  refine ⟨he, ⟨h1, Nat.le_trans h.lo (Nat.le_max_left _ _), ?_, h.ok, h.fr.trans h2, Nat.le_trans h.bw h2.below.size⟩, h2⟩
  have := h.hi
  omega
theorem WrS.done (h : WrS base g X now0 high0 H w0 w now Y high) {sz : Nat} (hs : Y.length ≤ sz) : Wrote base g X now0 high0 now H sz w0 (.returned (.tuple #[])) w :=
  ⟨Y, high, rfl, h.wr, h.lo, h.hi, hs, h.ok, h.fr⟩
/-- A place is filled in. -/
theorem WrS.patch (h : WrS base g X now0 high0 H w0 w now Y high) {q : Nat} (hq : q < Y.length) :
    ∃ ga c, WrA w base g (X ++ Y) now high (some ⟨ga, 0, none⟩) c ∧
      (∃ u, w.cell? ⟨ga, (X.length + q) * 4 + 1, none⟩ = some u) ∧ w.frozen? ⟨ga, (X.length + q) * 4 + 1, none⟩ = false ∧
      (∃ u, w.cell? ⟨ga, (X.length + q) * 4 + 2, none⟩ = some u) ∧ w.frozen? ⟨ga, (X.length + q) * 4 + 2, none⟩ = false ∧
      (∀ a : Nat, a ≤ X.length + Y.length → ∃ Z, Z.length = Y.length ∧ WrS base g X now0 high0 H w0 (w.setCell ⟨ga, (X.length + q) * 4 + 1, none⟩ (.int .i64 a)) now Z high) ∧
      (∀ a : Nat, a ≤ X.length + Y.length → ∃ Z, Z.length = Y.length ∧ WrS base g X now0 high0 H w0 (w.setCell ⟨ga, (X.length + q) * 4 + 2, none⟩ (.int .i64 a)) now Z high) := by
  obtain ⟨A, c, h0, h1, h2⟩ := h.wr.at_
  have hlen : (X ++ Y).length = X.length + Y.length := List.length_append
  obtain ⟨ga, rfl⟩ : ∃ ga, A = some ⟨ga, 0, none⟩ := by
    rcases h2.2 with ⟨he, h0⟩ | ⟨g', cap, cur, he, _⟩
    · rw [hlen] at h0; omega
    · injection he with he1 _ _
      exact ⟨g', he1⟩
  have hbg : base ≤ ga := (h2.lt ga rfl).1
  have hp : X.length + q < (X ++ Y).length := by rw [hlen]; omega
  have hl4 : ((X ++ Y).flatMap insc).length = (X ++ Y).length * 4 := flat_len insc_len _
  have hblk : ∃ cs, Blk w ga 36 cs := by
    rcases h2.2 with ⟨he, _⟩ | ⟨g', cap, cur, he, _, hg, _⟩
    · cases he
    · injection he with he1 _ _
      injection he1 with he1
      injection he1 with he1 _ _
      subst he1
      exact ⟨cur, hg⟩
  obtain ⟨cs, hblk⟩ := hblk
  have hcell : ∀ j, j < (X ++ Y).length * 4 → ∃ u, w.cell? ⟨ga, j, none⟩ = some u := fun j hj => by
    have := h2.cellAt j hj
    rw [List.getElem?_eq_getElem (by rw [hl4]; exact hj)] at this
    exact ⟨_, this⟩
  have hok : ∀ (i' : Ins) (Z : List Ins), Z = Y.set q i' → (okI (X.length + Y.length) (Y[q]) = true → okI (X.length + Y.length) i' = true) → ∀ y ∈ Z, okI (X.length + Z.length) y = true := fun i' Z hZ hi y hy => by
    subst hZ
    rw [List.length_set]
    rcases List.mem_or_eq_of_mem_set hy with hy | rfl
    · exact h.ok y hy
    · exact hi (h.ok _ (List.getElem_mem hq))
  have hget : (X ++ Y)[X.length + q]'hp = Y[q] := by rw [List.getElem_append_right (by omega)]; simp
  have hset : ∀ i', (X ++ Y).set (X.length + q) i' = X ++ Y.set q i' := fun i' => by rw [List.set_append_right _ _ (by omega), Nat.add_sub_cancel_left]
  refine ⟨ga, c, ⟨h0, h1, h2⟩, hcell _ (by omega), h2.frozenAt _, hcell _ (by omega), h2.frozenAt _, fun a ha => ?_, fun a ha => ?_⟩
  · refine ⟨Y.set q ⟨Y[q].op, a, Y[q].b, Y[q].s⟩, by simp, ⟨⟨h0, _, (But.set w ((X.length + q) * 4 + 1) (.int .i64 a)).blk h1 (Blk.apart h1 hblk (by decide)), some ⟨ga, 0, none⟩, c, ?_, ?_⟩, h.lo, h.hi, hok _ _ rfl fun hi => ?_, h.fr.trans (frw_set hblk (by simp [tsW]) hbg h.bw _ _), Nat.le_trans h.bw (But.set (B := ga) w ((X.length + q) * 4 + 1) (.int .i64 a)).size⟩⟩
    · simp
    · have h3 := (h2.stored ((X.length + q) * 4 + 1) (.int .i64 a)).1
      rw [insc_set_a _ _ hp, hset, hget] at h3
      simpa using h3
    · unfold okI at *
      simp only [Bool.and_eq_true, Bool.or_eq_true, Bool.not_eq_true', decide_eq_true_eq] at *
      obtain ⟨⟨⟨⟨⟨h1, h2⟩, h3⟩, h4⟩, h5⟩, h6⟩ := hi
      exact ⟨⟨⟨⟨⟨h1, h2⟩, .inr ⟨by omega, by omega⟩⟩, h4⟩, .inr (by omega)⟩, h6⟩
  · refine ⟨Y.set q ⟨Y[q].op, Y[q].a, a, Y[q].s⟩, by simp, ⟨⟨h0, _, (But.set w ((X.length + q) * 4 + 2) (.int .i64 a)).blk h1 (Blk.apart h1 hblk (by decide)), some ⟨ga, 0, none⟩, c, ?_, ?_⟩, h.lo, h.hi, hok _ _ rfl fun hi => ?_, h.fr.trans (frw_set hblk (by simp [tsW]) hbg h.bw _ _), Nat.le_trans h.bw (But.set (B := ga) w ((X.length + q) * 4 + 2) (.int .i64 a)).size⟩⟩
    · simp
    · have h3 := (h2.stored ((X.length + q) * 4 + 2) (.int .i64 a)).1
      rw [insc_set_b _ _ hp, hset, hget] at h3
      simpa using h3
    · unfold okI at *
      simp only [Bool.and_eq_true, Bool.or_eq_true, Bool.not_eq_true', decide_eq_true_eq] at *
      obtain ⟨⟨⟨⟨⟨h1, h2⟩, h3⟩, h4⟩, h5⟩, h6⟩ := hi
      exact ⟨⟨⟨⟨⟨h1, h2⟩, h3⟩, .inr ⟨by omega, by omega⟩⟩, h5⟩, h6⟩
/-- The height is told anew. -/
theorem WrS.nowset (h : WrS base g X now0 high0 H w0 w now Y high) : w.cell? ⟨g, 1, none⟩ = some (.int .i64 now) ∧ w.frozen? ⟨g, 1, none⟩ = false ∧
    ∀ m : Nat, (m ≤ now ∨ m ≤ high) → WrS base g X now0 high0 H w0 (w.setCell ⟨g, 1, none⟩ (.int .i64 m)) m Y high ∧ FrW base w (w.setCell ⟨g, 1, none⟩ (.int .i64 m)) := by
  obtain ⟨h0, v, h1, A, c, rfl, h2⟩ := h.wr
  have c1 := h1.cell 1
  simp only [List.getElem?_toArray, List.getElem?_cons_zero, List.getElem?_cons_succ] at c1
  refine ⟨c1, h1.frozen 1, fun m hm => ?_⟩
  have hf := frw_set h1 (by simp [tsW]) h0.1 h.bw 1 (.int .i64 m)
  exact ⟨⟨⟨⟨h0.1, hm.elim (fun hm => Nat.le_trans hm h0.2) id⟩, _, by simpa using h1.set 1 (.int .i64 m), A, c, rfl, own_but h2 (But.set w 1 _) h1 (by decide)⟩, h.lo, h.hi, h.ok, h.fr.trans hf, Nat.le_trans h.bw hf.below.size⟩, hf⟩
end
/-- A command is written. -/
def DoOk (t : Tr) : Prop := ∀ (base g : Nat) (X : List Ins) (now high : Nat) (v : Value) (w : World), WrI w base g X now high → SlS base w v (flat t) → base ≤ w.heap.size → X.length + 8 * (flat t).length ≤ 30000000 → now + (flat t).length ≤ 30000000 → high ≤ 30000000 →
  Calls Tryd.prog 33 #[.pointer (some ⟨g, 0, none⟩), v] w (Wrote base g X now high now (heightT t) (8 * (flat t).length - 3) w)
/-- A word is written. -/
def WordOk (t : Tr) : Prop := ∀ (base g : Nat) (X : List Ins) (now high : Nat) (v : Value) (w : World), WrI w base g X now high → SlS base w v (flat t) → base ≤ w.heap.size → X.length + 8 * (flat t).length ≤ 30000000 → now + (flat t).length ≤ 30000000 → high ≤ 30000000 →
  Calls Tryd.prog 93 #[.pointer (some ⟨g, 0, none⟩), v] w (Wrote base g X now high (now + 1) (heightT t) (8 * (flat t).length - 3) w)
end Go.Proofs.YtpogngdddendiaaDoor
