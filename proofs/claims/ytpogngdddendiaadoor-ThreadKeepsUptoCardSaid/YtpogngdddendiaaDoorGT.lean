/- The writer's steps, each with what it leaves: a command, a word, an instruction, the height, a place filled in. No condition. -/
import Derived.Test.YtpogngdddendiaaDoorGN
import Derived.Lib.MinMax
import Derived.Deep.LoopGhost
set_option linter.unusedVariables false
set_option linter.unusedSimpArgs false
namespace Go.Proofs.YtpogngdddendiaaDoor
open Go.RowKit

theorem KdS.get {base : Nat} {w : World} {b o : Nat} {ls : List (List Nd)} (h : KdS base w (some ⟨b, o, none⟩) ls) {k : Nat} (hk : k < ls.length) :
    ∃ v, w.cell? ⟨b, o + k, none⟩ = some v ∧ SlS base w v ls[k] := by
  obtain ⟨b', o', v, hA, _, hc, hs⟩ := h.at_ hk
  simp only [Option.some.injEq, Addr.mk.injEq, and_true] at hA
  obtain ⟨rfl, rfl⟩ := hA
  exact ⟨v, hc, hs⟩
/-- What stands at a step: the writer, the kids; how much has been written. -/
structure StP (base g : Nat) (X : List Ins) (now0 high0 H : Nat) (w0 : World) (A : Option Addr) (ls : List (List Nd)) (W : World) (now lo n : Nat) (Y : List Ins) (hi : Nat) : Prop where
  wr : WrS base g X now0 high0 H w0 W now Y hi
  kd : KdS base W A ls
  lo : lo ≤ X.length + Y.length
  n : Y.length ≤ n
  cap : high0 ≤ 30000000 ∧ now0 + H ≤ 30000000
def St (base g : Nat) (X : List Ins) (now0 high0 H : Nat) (w0 : World) (A : Option Addr) (ls : List (List Nd)) (W : World) (now lo n : Nat) : Prop := ∃ Y hi, StP base g X now0 high0 H w0 A ls W now lo n Y hi
section
variable {base g : Nat} {X : List Ins} {now0 high0 H : Nat} {w0 W : World} {A : Option Addr} {ls : List (List Nd)} {now lo n : Nat}
theorem St.start (h : WrI W base g X now0 high0) (hk : KdS base W A ls) (hb : base ≤ W.heap.size) (hc : high0 ≤ 30000000 ∧ now0 + H ≤ 30000000) : St base g X now0 high0 H W A ls W now0 X.length 0 :=
  ⟨[], high0, WrS.start h hb, hk, Nat.le_refl _, Nat.le_refl _, hc⟩
theorem St.below (h : St base g X now0 high0 H w0 A ls W now lo n) {W' : World} (hb : Below W.heap.size W W') : St base g X now0 high0 H w0 A ls W' now lo n :=
  let ⟨Y, hi, h⟩ := h
  ⟨Y, hi, h.wr.below hb, h.kd.frw (FrW.of hb h.wr.bw), h.lo, h.n, h.cap⟩
theorem St.bw (h : St base g X now0 high0 H w0 A ls W now lo n) : base ≤ W.heap.size := let ⟨_, _, h⟩ := h; h.wr.bw
theorem St.done (h : St base g X now0 high0 H w0 A ls W now lo n) {sz : Nat} (hs : n ≤ sz) : Wrote base g X now0 high0 now H sz w0 (.returned (.tuple #[])) W :=
  let ⟨_, _, h⟩ := h
  h.wr.done (Nat.le_trans h.n hs)
/-- What a call leaves. -/
def StRet (base g : Nat) (X : List Ins) (now0 high0 H : Nat) (w0 : World) (A : Option Addr) (ls : List (List Nd)) (W : World) (now lo n : Nat) (e : Ending) (W' : World) : Prop :=
  e = .returned (.tuple #[]) ∧ St base g X now0 high0 H w0 A ls W' now lo n ∧ FrW base W W'
theorem St.sub (h : St base g X now0 high0 H w0 A ls W now lo n) {now' hh sz : Nat} {e : Ending} {W' : World} (hw : ∀ Y hi, StP base g X now0 high0 H w0 A ls W now lo n Y hi → Wrote base g (X ++ Y) now hi now' hh sz W e W') (hH : now + hh ≤ now0 + H) : StRet base g X now0 high0 H w0 A ls W now' lo (n + sz) e W' := by
  obtain ⟨Y, hi, h⟩ := h
  obtain ⟨Z, hi2, he, hs, hz, hf⟩ := h.wr.wrote (hw Y hi h) hH
  exact ⟨he, ⟨Y ++ Z, hi2, hs, h.kd.frw hf, by rw [List.length_append]; have := h.lo; omega, by rw [List.length_append]; have := h.n; omega, h.cap⟩, hf⟩
theorem St.sub' (h : St base g X now0 high0 H w0 A ls W now lo n) {now' hh sz : Nat} {f : FuncId} {args : Array Value} (hw : ∀ Y hi, StP base g X now0 high0 H w0 A ls W now lo n Y hi → Calls Tryd.prog f args W (Wrote base g (X ++ Y) now hi now' hh sz W)) (hH : now + hh ≤ now0 + H) : Calls Tryd.prog f args W (StRet base g X now0 high0 H w0 A ls W now' lo (n + sz)) := by
  obtain ⟨Y, hi, h⟩ := h
  refine (hw Y hi h).mono fun e W' hx => ?_
  obtain ⟨Z, hi2, he, hs, hz, hf⟩ := h.wr.wrote hx hH
  exact ⟨he, ⟨Y ++ Z, hi2, hs, h.kd.frw hf, by rw [List.length_append]; have := h.lo; omega, by rw [List.length_append]; have := h.n; omega, h.cap⟩, hf⟩
/-- A command of the kids. -/
theorem St.do_ {b o k : Nat} {t : Tr} (h : St base g X now0 high0 H w0 (some ⟨b, o, none⟩) ls W now lo n) (hd : DoOk t) (hk : k < ls.length) (ht : ls[k] = flat t) (hH : now + heightT t ≤ now0 + H) (hb1 : X.length + n + 8 * (flat t).length ≤ 30000000) (hb2 : now + (flat t).length ≤ 30000000) :
    ∃ Av nv cv, W.cell? ⟨b, o + k, none⟩ = some (.slice Av nv cv) ∧ Calls Tryd.prog 33 #[.pointer (some ⟨g, 0, none⟩), .slice Av nv cv] W (StRet base g X now0 high0 H w0 (some ⟨b, o, none⟩) ls W now lo (n + (8 * (flat t).length - 3))) := by
  have h' := h
  obtain ⟨Y, hi, hp⟩ := h'
  obtain ⟨v, hc, hs⟩ := hp.kd.get hk
  obtain ⟨Av, cv, rfl, -⟩ := hs.rd
  refine ⟨Av, _, cv, hc, h.sub' (fun Y hi hp => ?_) hH⟩
  rw [ht] at hs ⊢
  exact hd base g (X ++ Y) now hi _ W hp.wr.wr hs hp.wr.bw (by rw [List.length_append]; have := hp.n; omega) hb2 (by have := hp.wr.hi; have := hp.cap; omega)
/-- A word of the kids. -/
theorem St.word_ {b o k : Nat} {t : Tr} (h : St base g X now0 high0 H w0 (some ⟨b, o, none⟩) ls W now lo n) (hd : WordOk t) (hk : k < ls.length) (ht : ls[k] = flat t) (hH : now + heightT t ≤ now0 + H) (hb1 : X.length + n + 8 * (flat t).length ≤ 30000000) (hb2 : now + (flat t).length ≤ 30000000) :
    ∃ Av nv cv, W.cell? ⟨b, o + k, none⟩ = some (.slice Av nv cv) ∧ Calls Tryd.prog 93 #[.pointer (some ⟨g, 0, none⟩), .slice Av nv cv] W (StRet base g X now0 high0 H w0 (some ⟨b, o, none⟩) ls W (now + 1) lo (n + (8 * (flat t).length - 3))) := by
  have h' := h
  obtain ⟨Y, hi, hp⟩ := h'
  obtain ⟨v, hc, hs⟩ := hp.kd.get hk
  obtain ⟨Av, cv, rfl, -⟩ := hs.rd
  refine ⟨Av, _, cv, hc, h.sub' (fun Y hi hp => ?_) hH⟩
  rw [ht] at hs ⊢
  exact hd base g (X ++ Y) now hi _ W hp.wr.wr hs hp.wr.bw (by rw [List.length_append]; have := hp.n; omega) hb2 (by have := hp.wr.hi; have := hp.cap; omega)
/-- What an instruction leaves: its place. -/
def StOp (base g : Nat) (X : List Ins) (now0 high0 H : Nat) (w0 : World) (A : Option Addr) (ls : List (List Nd)) (W : World) (now lo n : Nat) (e : Ending) (W' : World) : Prop :=
  ∃ P : Nat, e = .returned (.int .i64 P) ∧ X.length ≤ P ∧ lo ≤ P ∧ P ≤ 30000000 ∧ St base g X now0 high0 H w0 A ls W' now (P + 1) (n + 1) ∧ FrW base W W'
theorem St.op_ (h : St base g X now0 high0 H w0 A ls W now lo n) (op a b : Int) (s : List UInt8) (hi : ∀ m, lo ≤ m → okI (m + 1) ⟨op, a, b, s⟩ = true) (hb : X.length + n ≤ 30000000) :
    Calls Tryd.prog 34 #[.pointer (some ⟨g, 0, none⟩), .int .i64 op, .int .i64 a, .int .i64 b, .string ⟨s.toArray⟩] W (StOp base g X now0 high0 H w0 A ls W now lo n) := by
  obtain ⟨Y, hg, hp⟩ := h
  obtain ⟨Aw, cw, hwa⟩ := hp.wr.wr.at_
  have hn := hp.n
  have hl := hp.lo
  refine (op_any op a b s W hwa (by rw [List.length_append]; omega) hp.wr.bw).mono fun e W' ho => ?_
  obtain ⟨he, hs, hf⟩ := hp.wr.op ho (hi _ hl)
  refine ⟨X.length + Y.length, he, Nat.le_add_right _ _, hl, by omega, ⟨_, _, hs, hp.kd.frw hf, ?_, ?_, hp.cap⟩, hf⟩
  · rw [List.length_append, List.length_singleton]; omega
  · rw [List.length_append, List.length_singleton]; omega
theorem St.push_ (h : St base g X now0 high0 H w0 A ls W now lo n) (m : Nat) (k : Int) (hk : (now : Int) + k = m) (hm : m ≤ now0 + H) (hnow : now ≤ 30000000) :
    Calls Tryd.prog 94 #[.pointer (some ⟨g, 0, none⟩), .int .i64 k] W (StRet base g X now0 high0 H w0 A ls W m lo n) := by
  obtain ⟨Y, hi, hp⟩ := h
  have h1 := hp.wr.hi
  have h2 := hp.cap
  refine (push_any k W hp.wr.wr hk (by omega) (by omega) (by omega) hp.wr.bw).mono fun e W' ho => ?_
  obtain ⟨he, hs, hf⟩ := hp.wr.push ho hm
  exact ⟨he, ⟨_, _, hs, hp.kd.frw hf, hp.lo, hp.n, hp.cap⟩, hf⟩
/-- A place is filled in with where the writer stands: what the region reads, and what it leaves. -/
theorem St.fill (h : St base g X now0 high0 H w0 A ls W now lo n) {P : Nat} (hX : X.length ≤ P) (hP : P < lo) (hb : X.length + n ≤ 30000000) :
    ∃ ga c nn : Nat, P < nn ∧ nn ≤ 30000000 ∧ (∀ x : Later W, x.val.cell? ⟨g, 0, none⟩ = some (.slice (some ⟨ga, 0, none⟩) nn c)) ∧ (∀ W', Below W.heap.size W W' → Calls Tryd.prog 65 #[.pointer (some ⟨g, 0, none⟩)] W' (Ret W' (.int .i64 nn))) ∧
      (∀ W', Below W.heap.size W W' → (∃ u, W'.cell? ⟨ga, P * 4 + 1, none⟩ = some u) ∧ W'.frozen? ⟨ga, P * 4 + 1, none⟩ = false ∧ (∃ u, W'.cell? ⟨ga, P * 4 + 2, none⟩ = some u) ∧ W'.frozen? ⟨ga, P * 4 + 2, none⟩ = false ∧
        St base g X now0 high0 H w0 A ls (W'.setCell ⟨ga, P * 4 + 1, none⟩ (.int .i64 nn)) now lo n ∧ FrW base W (W'.setCell ⟨ga, P * 4 + 1, none⟩ (.int .i64 nn)) ∧
        St base g X now0 high0 H w0 A ls (W'.setCell ⟨ga, P * 4 + 2, none⟩ (.int .i64 nn)) now lo n ∧ FrW base W (W'.setCell ⟨ga, P * 4 + 2, none⟩ (.int .i64 nn))) := by
  obtain ⟨Y, hi, hp⟩ := h
  have hlo := hp.lo
  have hn := hp.n
  have hq : P - X.length < Y.length := by omega
  have hPX : X.length + (P - X.length) = P := by omega
  obtain ⟨ga, c, ⟨h0, h1, h2⟩, _⟩ := hp.wr.patch hq
  have hlen : (X ++ Y).length = X.length + Y.length := List.length_append
  have c0 := h1.cell 0
  simp only [List.getElem?_toArray, List.getElem?_cons_zero] at c0
  refine ⟨ga, c, (X ++ Y).length, by omega, by omega, Later.cell c0, fun W' hb' => ?_, fun W' hb' => ?_⟩
  · refine (here_any W' (hp.wr.wr.below hb')).mono ?_
    rintro e w' ⟨he, hw⟩
    rw [hw]
    exact ⟨he, Below.refl _ _⟩
  · have hwb := hp.wr.below hb'
    have hkb := hp.kd.frw (FrW.of hb' hp.wr.bw)
    obtain ⟨ga', c', ⟨_, g1, _⟩, p1, p2, p3, p4, p5, p6⟩ := hwb.patch hq
    have hga : ga' = ga := by
      have e1 := g1.cell 0
      rw [cell_keep hb' c0] at e1
      simp only [List.getElem?_toArray, List.getElem?_cons_zero, Option.some.injEq, Value.slice.injEq, Addr.mk.injEq, and_true] at e1
      exact e1.1.symm
    subst hga
    rw [hPX] at p1 p2 p3 p4 p5 p6
    obtain ⟨Z1, z1, z2⟩ := p5 (X ++ Y).length (by omega)
    obtain ⟨Z2, z3, z4⟩ := p6 (X ++ Y).length (by omega)
    have hfr : ∀ j, FrW base W (W'.setCell ⟨ga', j, none⟩ (.int .i64 (X ++ Y).length)) := fun j => by
      have hbg : base ≤ ga' := (h2.lt ga' rfl).1
      have h3 := own_below h2 hb'
      rcases h3.2 with ⟨he, _⟩ | ⟨g', cap, cur, he, _, hg, _⟩
      · cases he
      · injection he with he1 _ _
        injection he1 with he1
        injection he1 with he1 _ _
        subst he1
        exact (FrW.of hb' hp.wr.bw).trans (frw_set (g := ga') hg (by simp [tsW]) hbg (Nat.le_trans hp.wr.bw hb'.size) j _)
    have hk2 : ∀ j, KdS base (W'.setCell ⟨ga', j, none⟩ (.int .i64 (X ++ Y).length)) A ls := fun j => hp.kd.frw (hfr j)
    exact ⟨p1, p2, p3, p4, ⟨Z1, hi, z2, hk2 _, by rw [z1]; exact hlo, by rw [z1]; exact hn, hp.cap⟩, hfr _, ⟨Z2, hi, z4, hk2 _, by rw [z3]; exact hlo, by rw [z3]; exact hn, hp.cap⟩, hfr _⟩
/-- The same at a world, where it is known how the writer's row lies. -/
theorem St.fill2 (h : St base g X now0 high0 H w0 A ls W now lo n) {ga nn c : Nat} (hc : W.cell? ⟨g, 0, none⟩ = some (.slice (some ⟨ga, 0, none⟩) nn c)) {P : Nat} (hX : X.length ≤ P) (hP : P < lo) (q : Nat) (hqn : q ≤ nn) :
    Calls Tryd.prog 65 #[.pointer (some ⟨g, 0, none⟩)] W (fun e w' => e = .returned (.int .i64 nn) ∧ w' = W) ∧ (∃ u, W.cell? ⟨ga, P * 4 + 1, none⟩ = some u) ∧ W.frozen? ⟨ga, P * 4 + 1, none⟩ = false ∧
      St base g X now0 high0 H w0 A ls (W.setCell ⟨ga, P * 4 + 1, none⟩ (.int .i64 q)) now lo n ∧ FrW base W (W.setCell ⟨ga, P * 4 + 1, none⟩ (.int .i64 q)) ∧ (W.setCell ⟨ga, P * 4 + 1, none⟩ (.int .i64 q)).cell? ⟨g, 0, none⟩ = some (.slice (some ⟨ga, 0, none⟩) nn c) := by
  obtain ⟨Y, hi, hp⟩ := h
  have hlo := hp.lo
  have hn := hp.n
  have hq2 : P - X.length < Y.length := by omega
  have hPX : X.length + (P - X.length) = P := by omega
  obtain ⟨ga', c', ⟨h0, h1, h2⟩, p1, p2, _, _, p5, _⟩ := hp.wr.patch hq2
  have e1 := h1.cell 0
  simp only [List.getElem?_toArray, List.getElem?_cons_zero] at e1
  rw [hc] at e1
  simp only [Option.some.injEq, Value.slice.injEq, Addr.mk.injEq, and_true] at e1
  obtain ⟨rfl, rfl, rfl⟩ := e1
  rw [hPX] at p1 p2 p5
  obtain ⟨Z1, z1, z2⟩ := p5 q (by rw [List.length_append] at hqn; exact hqn)
  have hbg : base ≤ ga := (h2.lt ga rfl).1
  have hblk : ∃ cs, Blk W ga 36 cs := by
    rcases h2.2 with ⟨he, _⟩ | ⟨g', cap, cur, he, _, hg, _⟩
    · cases he
    · injection he with he1 _ _
      injection he1 with he1
      injection he1 with he1 _ _
      subst he1
      exact ⟨cur, hg⟩
  obtain ⟨cs, hblk⟩ := hblk
  have hfr := frw_set hblk (by simp [tsW]) hbg hp.wr.bw (P * 4 + 1) (.int .i64 q)
  refine ⟨here_any W hp.wr.wr, p1, p2, ⟨Z1, hi, z2, hp.kd.frw hfr, by rw [z1]; exact hlo, by rw [z1]; exact hn, hp.cap⟩, hfr, ?_⟩
  exact (But.set (B := ga) W (P * 4 + 1) _).cell hc (Blk.apart h1 hblk (by decide))
/-- An instruction more, where it is known how the writer's row lies: how it lies then. -/
theorem St.op2 (h : St base g X now0 high0 H w0 A ls W now lo n) {ga nn c : Nat} (hc : W.cell? ⟨g, 0, none⟩ = some (.slice (some ⟨ga, 0, none⟩) nn c)) (op a b : Int) (s : List UInt8) (hi : ∀ m, lo ≤ m → okI (m + 1) ⟨op, a, b, s⟩ = true) (hb : X.length + n ≤ 30000000) :
    Calls Tryd.prog 34 #[.pointer (some ⟨g, 0, none⟩), .int .i64 op, .int .i64 a, .int .i64 b, .string ⟨s.toArray⟩] W (fun e W' => e = .returned (.int .i64 nn) ∧ lo ≤ nn ∧ St base g X now0 high0 H w0 A ls W' now (nn + 1) (n + 1) ∧ FrW base W W' ∧
      ((nn < c ∧ W'.cell? ⟨g, 0, none⟩ = some (.slice (some ⟨ga, 0, none⟩) (nn + 1) c)) ∨ (c ≤ nn ∧ ∃ c', W'.cell? ⟨g, 0, none⟩ = some (.slice (some ⟨W.heap.size + 1, 0, none⟩) (nn + 1) c') ∧ base ≤ ga ∧ ga < W.heap.size ∧ ∃ xs, W'.ownsRow base 36 4 (.slice (some ⟨ga, 0, none⟩) nn c) nn xs))) := by
  obtain ⟨Y, hg, hp⟩ := h
  obtain ⟨Aw, cw, hwa⟩ := hp.wr.wr.at_
  have hn := hp.n
  have hl := hp.lo
  have e1 := hwa.2.1.cell 0
  simp only [List.getElem?_toArray, List.getElem?_cons_zero] at e1
  rw [hc] at e1
  simp only [Option.some.injEq, Value.slice.injEq] at e1
  obtain ⟨rfl, rfl, rfl⟩ := e1
  refine (op_any op a b s W hwa (by rw [List.length_append]; omega) hp.wr.bw).mono fun e W' ho => ?_
  obtain ⟨he, hs, hf⟩ := hp.wr.op ho (hi _ hl)
  obtain ⟨A', c', he', hw', _, hloc⟩ := ho
  have hnn : (X ++ Y).length = X.length + Y.length := List.length_append
  have e2 := hw'.2.1.cell 0
  simp only [List.getElem?_toArray, List.getElem?_cons_zero, List.length_append, List.length_singleton] at e2
  refine ⟨he', by omega, ⟨_, _, hs, hp.kd.frw hf, ?_, ?_, hp.cap⟩, hf, ?_⟩
  · simp only [List.length_append, List.length_singleton]; omega
  · simp only [List.length_append, List.length_singleton]; omega
  · rw [hnn] at hloc ⊢
    rcases hloc with ⟨h1, rfl, rfl⟩ | ⟨h1, rfl, h2⟩
    · exact .inl ⟨h1, e2⟩
    · refine .inr ⟨h1, c', e2, (hwa.2.2.lt ga rfl).1, (hwa.2.2.lt ga rfl).2, (X ++ Y).flatMap insc, ?_⟩
      have := own_but hwa.2.2 h2 hwa.2.1 (by decide)
      rwa [hnn] at this
/-- A cell of an elder row of instructions is set: the writer stands. -/
theorem St.stale (h : St base g X now0 high0 H w0 A ls W now lo n) {ga gb nn nb c cb : Nat} (hc : W.cell? ⟨g, 0, none⟩ = some (.slice (some ⟨gb, 0, none⟩) nb cb)) (hne : ga ≠ gb) {xs : List Value} (ho : W.ownsRow base 36 4 (.slice (some ⟨ga, 0, none⟩) nn c) nn xs) {P : Nat} (hP : P < nn) (v : Value) :
    (∃ u, W.cell? ⟨ga, P * 4 + 1, none⟩ = some u) ∧ W.frozen? ⟨ga, P * 4 + 1, none⟩ = false ∧ St base g X now0 high0 H w0 A ls (W.setCell ⟨ga, P * 4 + 1, none⟩ v) now lo n ∧ FrW base W (W.setCell ⟨ga, P * 4 + 1, none⟩ v) := by
  obtain ⟨Y, hi, hp⟩ := h
  obtain ⟨Aw, cw, h0, h1, h2⟩ := hp.wr.wr.at_
  have e1 := h1.cell 0
  simp only [List.getElem?_toArray, List.getElem?_cons_zero] at e1
  rw [hc] at e1
  simp only [Option.some.injEq, Value.slice.injEq] at e1
  obtain ⟨rfl, rfl, rfl⟩ := e1
  have hbg : base ≤ ga := (ho.lt ga rfl).1
  have hblk : ∃ cs, Blk W ga 36 cs := by
    rcases ho.2 with ⟨he, _⟩ | ⟨g', cap, cur, he, _, hg, _⟩
    · cases he
    · injection he with he1 _ _
      injection he1 with he1
      injection he1 with he1 _ _
      subst he1
      exact ⟨cur, hg⟩
  obtain ⟨cs, hblk⟩ := hblk
  have hl := ho.1
  have hcell := ho.cellAt (P * 4 + 1) (by omega)
  rw [List.getElem?_eq_getElem (by rw [hl]; omega)] at hcell
  have hfr := frw_set hblk (by simp [tsW]) hbg hp.wr.bw (P * 4 + 1) v
  refine ⟨⟨_, hcell⟩, ho.frozenAt _, ⟨Y, hi, ⟨⟨h0, _, (But.set W (P * 4 + 1) v).blk h1 (Blk.apart h1 hblk (by decide)), some ⟨gb, 0, none⟩, cb, rfl, ?_⟩, hp.wr.lo, hp.wr.hi, hp.wr.ok, hp.wr.fr.trans hfr, Nat.le_trans hp.wr.bw hfr.below.size⟩, hp.kd.frw hfr, hp.lo, hp.n, hp.cap⟩, hfr⟩
  refine ⟨h2.1, ?_⟩
  rcases h2.2 with hn' | ⟨g', cap, cur, he, hb', hg, rest⟩
  · exact .inl hn'
  · refine .inr ⟨g', cap, cur, he, hb', ((But.set (B := ga) W (P * 4 + 1) v).block g' (Array.getElem?_eq_some_iff.1 hg).1 fun e => ?_).trans hg, rest⟩
    injection he with he1 _ _
    injection he1 with he1
    injection he1 with he1 _ _
    omega
theorem St.cell0 (h : St base g X now0 high0 H w0 A ls W now lo n) {P : Nat} (hX : X.length ≤ P) (hP : P < lo) (hb : X.length + n ≤ 30000000) : ∃ ga nn c : Nat, W.cell? ⟨g, 0, none⟩ = some (.slice (some ⟨ga, 0, none⟩) nn c) ∧ lo ≤ nn ∧ nn ≤ 30000000 := by
  obtain ⟨Y, hi, hp⟩ := h
  have hlo := hp.lo
  have hn := hp.n
  obtain ⟨ga, c, ⟨h0, h1, h2⟩, _⟩ := hp.wr.patch (q := P - X.length) (by omega)
  have c0 := h1.cell 0
  simp only [List.getElem?_toArray, List.getElem?_cons_zero] at c0
  have hlen : (X ++ Y).length = X.length + Y.length := List.length_append
  exact ⟨ga, _, c, c0, by omega, by omega⟩
/-- What stands while places are filled in. -/
def FillI (base g : Nat) (X : List Ins) (now0 high0 H : Nat) (w0 : World) (A : Option Addr) (ls : List (List Nd)) (W0 : World) (now lo n ga nn c : Nat) (kv : List Value) (x : World) : Prop :=
  St base g X now0 high0 H w0 A ls x now lo n ∧ FrW base W0 x ∧ x.cell? ⟨g, 0, none⟩ = some (.slice (some ⟨ga, 0, none⟩) nn c)
end
end Go.Proofs.YtpogngdddendiaaDoor

/- The walk over together: words put together as they go. Bounds on the lengths. -/
set_option linter.unusedVariables false
set_option linter.unusedSimpArgs false
namespace Go.Proofs.YtpogngdddendiaaDoor
open Go.RowKit

def nowJ (m j : Nat) : Nat := if j = 0 then 0 else if j < m then 1 else min m 2
theorem nowJ_last (m : Nat) : nowJ m m = min m 2 := by
  unfold nowJ
  split
  · omega
  · rw [if_neg (Nat.lt_irrefl _)]
def sumT (ks : List Tr) (j : Nat) : Nat := (flatAll (ks.take j)).length
theorem sumT_succ (ks : List Tr) (j : Nat) (h : j < ks.length) : sumT ks (j + 1) = sumT ks j + (flat ks[j]).length := by
  unfold sumT
  rw [List.take_succ_eq_append_getElem h, flatAll_append, flatAll_cons, flatAll_nil, List.append_nil, List.length_append]
theorem sumT_le (ks : List Tr) (j : Nat) : sumT ks j ≤ (flatAll ks).length := flatAll_take_le ks j
set_option maxRecDepth 100000 in
set_option maxHeartbeats 4000000 in
theorem together_any (ks : List Tr) (HW : ∀ t ∈ ks, WordOk t) (op b : Int) (hop : op = 3 ∨ op = 4 ∨ op = 38) (hb : b = 0 ∨ b = 1) (base g : Nat) (X : List Ins) (now high H : Nat) (A : Option Addr) (c m : Nat) (w : World)
    (h : WrI w base g X now high) (hk : KdS base w A (ks.map flat)) (hm : m = ks.length) (hbw : base ≤ w.heap.size) (hH : ∀ i (h : i < ks.length), heightT ks[i] + i ≤ H)
    (hX : X.length + 8 * (flatAll ks).length ≤ 30000000) (hnow : now + (flatAll ks).length + 1 ≤ 30000000) (hhi : high ≤ 30000000) (hH9 : now + H ≤ 30000000) :
    Calls Tryd.prog 95 #[.pointer (some ⟨g, 0, none⟩), .slice A m c, .int .i64 op, .int .i64 b] w (Wrote base g X now high (now + min m 2) H (8 * (flatAll ks).length - 2 * m) w) := by
  have HK := Lib.hid hk
  have HM := Lib.hid hm
  have HWO := Lib.hid HW
  have HHH := Lib.hid hH
  have HOPV := Lib.hid hop
  have HST := Lib.hid (WrS.start (H := H) h hbw)
  have hml := len_flatAll ks
  have hm8 : m ≤ 30000000 := by omega
  have HLE := Lib.hid hml
  obtain ⟨fl, hfl⟩ : ∃ fl, fl = (flatAll ks).length := ⟨_, rfl⟩
  have HFL := Lib.hid hfl
  rw [← hfl] at hX hnow hml ⊢
  clear h hk hm hH HW hfl hop
  go_enter Tryd.func95, Tryd.ntmps95
  go_wp2_with fail
  go_loopw [12] (fun i wr => ∃ j : Nat, j ≤ m ∧ i = .int .i64 j ∧ ∃ (Y : List Ins) (hi : Nat), Hid (WrS base g X now high H w wr (now + nowJ m j) Y hi) ∧ Hid (KdS base wr A (ks.map flat)) ∧ Hid (Y.length + 2 * j ≤ 8 * sumT ks j)) (fun i _ => m - (intOf i).toNat)
  case atStart => exact ⟨0, Nat.zero_le _, rfl, [], high, HST, HK, Lib.hid (by simp)⟩
  case round =>
    obtain ⟨j, hj, rfl, Y, hi, HS, HKJ, HY⟩ := hrel
    clear HST HK
    by_cases hlt : j < m
    · have hjk : j < ks.length := by rw [← HM.out]; exact hlt
      obtain ⟨kb, ko, v, rfl, hkb, hkc, hks⟩ := HKJ.out.at_ (k := j) (by simpa using hjk)
      simp only [List.getElem_map] at hks
      have hsum := sumT_succ ks j hjk
      have hsl := sumT_le ks (j + 1)
      have hHj := HHH.out j hjk
      obtain ⟨t, ht⟩ : ∃ t, t = ks[j] := ⟨_, rfl⟩
      rw [← ht] at hks hsum hHj
      have hpos := flat_pos t
      have hYl := HY.out
      have hn1 : nowJ m j = min j 1 := by unfold nowJ; split <;> omega
      rw [hn1] at HS
      have hhi2 := HS.out.hi
      have HWC := Lib.hid (HWO.out t (by rw [ht]; exact List.getElem_mem _) base g (X ++ Y) (now + min j 1) hi v wr HS.out.wr hks HS.out.bw (by rw [List.length_append]; rw [← HFL.out] at hsl; omega) (by rw [← HFL.out] at hsl; omega) (by omega))
      obtain ⟨Av, cv, rfl, -⟩ := hks.rd
      have HSU := Lib.hid hsum
      have HHJ := Lib.hid hHj
      have HYL := Lib.hid hYl
      have HSL := Lib.hid hsl
      have HHI := Lib.hid hhi2
      generalize (flat t).length = ft at *
      clear ht hks hjk hsum hsl hHj hYl hhi2 HY
      go_wp2_with fail
      refine HWC.out.mono ?_
      intro e w2 hw2
      obtain ⟨Z, hi2, rfl, hs2, hz2, hf2⟩ := HS.out.wrote hw2 (by have := HHJ.out; omega)
      have HS2 := Lib.hid hs2
      have HK2 := Lib.hid (HKJ.out.frw hf2)
      have HZ2 := Lib.hid hz2
      clear hw2 hs2 hz2 hf2 HWC HS HKJ hkc hkb
      have HLN := Lib.hid (show (Y ++ Z).length + 2 * (j + 1) ≤ 8 * sumT ks (j + 1) from by
        rw [List.length_append]
        have h1 := HYL.out
        have h2 := HZ2.out
        have h3 := HSU.out
        omega)
      have HLN1 := Lib.hid (show ∀ i : Ins, ((Y ++ Z) ++ [i]).length + 2 * (j + 1) ≤ 8 * sumT ks (j + 1) from fun i => by
        rw [List.length_append, List.length_append, List.length_singleton]
        have h1 := HYL.out
        have h2 := HZ2.out
        have h3 := HSU.out
        omega)
      rcases Nat.eq_zero_or_pos j with rfl | hj0
      · rw [show now + min 0 1 + 1 = now + 1 by omega] at HS2
        by_cases hm1 : m = 1
        · have hmd : decide ((1 : Int) < m) = false := decide_eq_false (by omega)
          have HNJ1 := Lib.hid (show nowJ m (0 + 1) = 1 by subst hm1; rfl)
          clear hm1
          rcases hb with rfl | rfl
          all_goals
            have HSF := Lib.hid (show WrS base g X now high H w w2 (now + nowJ m (0 + 1)) (Y ++ Z) hi2 from by
              rw [show now + nowJ m (0 + 1) = now + 1 by rw [HNJ1.out]]
              exact HS2.out)
            clear HS2
            go_wp2_with fail
            go_roundw
            case rel => exact ⟨(0 + 1), by omega, by go_num, Y ++ Z, hi2, HSF, HK2, HLN⟩
            case measure => simp [intOf]; omega
        · have hmd : decide ((1 : Int) < m) = true := decide_eq_true (by omega)
          have HNJ1 := Lib.hid (show nowJ m (0 + 1) = 1 by unfold nowJ; rw [if_neg (by omega), if_pos (by omega)])
          rcases hb with rfl | rfl
          · have HSF := Lib.hid (show WrS base g X now high H w w2 (now + nowJ m (0 + 1)) (Y ++ Z) hi2 from by
              rw [show now + nowJ m (0 + 1) = now + 1 by rw [HNJ1.out]]
              exact HS2.out)
            clear HS2
            go_wp2_with fail
            go_roundw
            case rel => exact ⟨(0 + 1), by omega, by go_num, Y ++ Z, hi2, HSF, HK2, HLN⟩
            case measure => simp [intOf]; omega
          · obtain ⟨Aw, cw, hwa⟩ := HS2.out.wr.at_
            have HOP := Lib.hid (op_any op 1 1 [] w2 hwa (by rw [List.length_append, List.length_append]; have := HYL.out; have := HZ2.out; have := HSU.out; have := HSL.out; rw [← HFL.out] at this; omega) HS2.out.bw)
            clear hwa
            go_wp2_with fail
            refine HOP.out.mono ?_
            intro e w3 ho
            obtain ⟨rfl, hs3, hf3⟩ := HS2.out.op ho (by rcases HOPV.out with rfl | rfl | rfl <;> simp [okI, placeA, placeB, countA])
            obtain ⟨n1, n2, n3⟩ := hs3.nowset
            have HSF := Lib.hid (show WrS base g X now high H w (w3.setCell ⟨g, 1, none⟩ (.int .i64 ((now + nowJ m (0 + 1) : Nat) : Int))) (now + nowJ m (0 + 1)) ((Y ++ Z) ++ [⟨op, 1, 1, []⟩]) hi2 from (n3 _ (.inl (by rw [HNJ1.out]; omega))).1)
            have HKF := Lib.hid ((HK2.out.frw hf3).frw (n3 (now + nowJ m (0 + 1)) (.inl (by rw [HNJ1.out]; omega))).2)
            rw [show now + nowJ m (0 + 1) = now + 1 by rw [HNJ1.out]] at HSF HKF
            have HNJ := Lib.hid (show now + nowJ m (0 + 1) = now + 1 by rw [HNJ1.out])
            clear ho hs3 hf3 n3 HOP HS2 HK2
            go_wp2_with fail
            go_roundw
            case rel => exact ⟨(0 + 1), by omega, by go_num, _, hi2, by rw [HNJ.out]; exact HSF, HKF, HLN1.out _ |> Lib.hid⟩
            case measure => simp [intOf]; omega
      · rw [show now + min j 1 + 1 = now + 2 by omega] at HS2
        have hj1 : decide ((0 : Int) < j) = true := decide_eq_true (by omega)
        have hj2 : ((j : Int) == 0) = false := by simp; omega
        have hmin : min (j : Int) 1 = 1 := by omega
        by_cases hjm : j + 1 < m
        · have hjd : decide ((j : Int) < (m : Int) - 1) = true := decide_eq_true (by omega)
          have HNJ1 := Lib.hid (show nowJ m (j + 1) = 1 by unfold nowJ; rw [if_neg (by omega), if_pos hjm])
          obtain ⟨Aw, cw, hwa⟩ := HS2.out.wr.at_
          have HOP := Lib.hid (op_any op 2 b [] w2 hwa (by rw [List.length_append, List.length_append]; have := HYL.out; have := HZ2.out; have := HSU.out; have := HSL.out; rw [← HFL.out] at this; omega) HS2.out.bw)
          clear hwa
          go_wp2_with fail
          refine HOP.out.mono ?_
          intro e w3 ho
          obtain ⟨rfl, hs3, hf3⟩ := HS2.out.op ho (by rcases HOPV.out with rfl | rfl | rfl <;> simp [okI, placeA, placeB, countA])
          obtain ⟨n1, n2, n3⟩ := hs3.nowset
          have HSF := Lib.hid (show WrS base g X now high H w (w3.setCell ⟨g, 1, none⟩ (.int .i64 ((now + nowJ m (j + 1) : Nat) : Int))) (now + nowJ m (j + 1)) ((Y ++ Z) ++ [⟨op, 2, b, []⟩]) hi2 from (n3 _ (.inl (by rw [HNJ1.out]; omega))).1)
          have HKF := Lib.hid ((HK2.out.frw hf3).frw (n3 (now + nowJ m (j + 1)) (.inl (by rw [HNJ1.out]; omega))).2)
          rw [show now + nowJ m (j + 1) = now + 1 by rw [HNJ1.out]] at HSF HKF
          have HNJ := Lib.hid (show now + nowJ m (j + 1) = now + 1 by rw [HNJ1.out])
          rw [show (((now + 1 : Nat) : Int)) = ((now : Int) + 2 - 1) by omega] at HSF HKF
          clear ho hs3 hf3 n3 HOP HS2 HK2
          go_wp2_with fail
          go_roundw
          case rel => exact ⟨(j + 1), by omega, by go_num, _, hi2, by rw [HNJ.out]; exact HSF, HKF, HLN1.out _ |> Lib.hid⟩
          case measure => simp [intOf]; omega
        · have hjd : decide ((j : Int) < (m : Int) - 1) = false := decide_eq_false (by omega)
          have HNJ1 := Lib.hid (show nowJ m (j + 1) = 2 by unfold nowJ; rw [if_neg (by omega), if_neg hjm]; omega)
          have HSF := Lib.hid (show WrS base g X now high H w w2 (now + nowJ m (j + 1)) (Y ++ Z) hi2 from by
            rw [show now + nowJ m (j + 1) = now + 2 by rw [HNJ1.out]]
            exact HS2.out)
          clear HS2
          go_wp2_with fail
          go_roundw
          case rel => exact ⟨(j + 1), by omega, by go_num, Y ++ Z, hi2, HSF, HK2, HLN⟩
          case measure => simp [intOf]; omega
    · obtain rfl : j = m := by omega
      have HFIN := Lib.hid (show Wrote base g X now high (now + min j 2) H (8 * fl - 2 * j) w (.returned (.tuple #[])) wr from by
        rw [← nowJ_last]
        refine HS.out.done ?_
        have h1 := HY.out
        have h2 := sumT_le ks j
        rw [← HFL.out] at h2
        omega)
      go_wp2_with fail
      go_returns
      exact HFIN.out
end Go.Proofs.YtpogngdddendiaaDoor
