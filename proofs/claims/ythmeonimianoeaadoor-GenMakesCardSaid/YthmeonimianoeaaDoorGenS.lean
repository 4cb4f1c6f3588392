/- What the writer has written so far, and what stands meanwhile. No condition. -/
import Derived.Test.YthmeonimianoeaaDoorGenW1
set_option linter.unusedVariables false
set_option linter.unusedSimpArgs false
namespace Go.Proofs.YthmeonimianoeaaDoor
open Go.RowKit

/-- It reads as these nodes, whatever the writer does. -/
def SlS (base : Nat) (w : World) (v : Value) (L : List Nd) : Prop := ∀ w', FrW base w w' → SlRd w' v L
theorem SlS.frw {base : Nat} {w w' : World} {v : Value} {L : List Nd} (h : SlS base w v L) (hf : FrW base w w') : SlS base w' v L := fun w'' h' => h w'' (hf.trans h')
theorem SlS.rd {base : Nat} {w : World} {v : Value} {L : List Nd} (h : SlS base w v L) : SlRd w v L := h w (FrW.refl _ _)
theorem SlS.old {base : Nat} {w : World} {v : Value} {L : List Nd} (h : SlRd w v L) (hb : w.heap.size ≤ base) : SlS base w v L := fun w' hf => h.below (hf.below.mono hb)
/-- A row of such. -/
def KdS (base : Nat) (w : World) (A : Option Addr) (ls : List (List Nd)) : Prop := ∃ vs, ∀ w', FrW base w w' → RdL w' 1 one1 A vs ∧ AllRd w' vs ls
theorem KdS.frw {base : Nat} {w w' : World} {A : Option Addr} {ls : List (List Nd)} (h : KdS base w A ls) (hf : FrW base w w') : KdS base w' A ls :=
  let ⟨vs, h⟩ := h
  ⟨vs, fun w'' h' => h w'' (hf.trans h')⟩
theorem KdS.at_ {base : Nat} {w : World} {A : Option Addr} {ls : List (List Nd)} (h : KdS base w A ls) {k : Nat} (hk : k < ls.length) :
    ∃ b o v, A = some ⟨b, o, none⟩ ∧ b < w.heap.size ∧ w.cell? ⟨b, o + k, none⟩ = some v ∧ SlS base w v ls[k] := by
  obtain ⟨vs, h⟩ := h
  obtain ⟨h1, h2⟩ := h w (FrW.refl _ _)
  have hkv : k < vs.length := by rw [h2.1]; exact hk
  obtain ⟨b, o, hA, hb, hc⟩ := h1 k hkv
  have := hc 0 _ rfl
  rw [Nat.mul_one, Nat.add_zero] at this
  exact ⟨b, o, vs[k], hA, hb, this, fun w' hf => (h w' hf).2.2 k hk _ (List.getElem?_eq_getElem _)⟩
theorem KdS.take {base : Nat} {w : World} {A : Option Addr} {ls : List (List Nd)} (h : KdS base w A ls) (n : Nat) : KdS base w A (ls.take n) := by
  obtain ⟨vs, h⟩ := h
  refine ⟨vs.take n, fun w' hf => ⟨(h w' hf).1.take n, by simp [(h w' hf).2.1], fun i hi v hv => ?_⟩⟩
  rw [List.length_take] at hi
  rw [List.getElem?_take, if_pos (by omega)] at hv
  rw [List.getElem_take]
  exact (h w' hf).2.2 i (by omega) v hv
theorem KdS.of_own {base B B' n c : Nat} {w : World} {A : Option Addr} {vs : List Value} {ls : List (List Nd)} (h : w.ownsRow B 23 1 (.slice A n c) n vs) (hn : n = ls.length) (ho : OwnAll w B' vs ls) : KdS base w A ls := by
  refine ⟨vs, fun w' hf => ?_⟩
  have h2 := own_frw h hf (by decide)
  exact ⟨(rd_one h2 (by rw [hn, ho.1])).1, (ho.frw hf).rd⟩

theorem insc_set_a : ∀ (L : List Ins) (p : Nat) (h : p < L.length) (a : Int), (L.flatMap insc).set (p * 4 + 1) (.int .i64 a) = (L.set p ⟨L[p].op, a, L[p].b, L[p].s⟩).flatMap insc
  | x :: L, 0, _, a => by simp [insc]
  | x :: L, p + 1, h, a => by
    have ih := insc_set_a L p (by simpa using h) a
    simp only [List.flatMap_cons, List.set_cons_succ, List.getElem_cons_succ]
    rw [← ih, show (p + 1) * 4 + 1 = (insc x).length + (p * 4 + 1) by simp [insc]; omega, List.set_append_right _ _ (by omega)]
    simp
theorem insc_set_b : ∀ (L : List Ins) (p : Nat) (h : p < L.length) (b : Int), (L.flatMap insc).set (p * 4 + 2) (.int .i64 b) = (L.set p ⟨L[p].op, L[p].a, b, L[p].s⟩).flatMap insc
  | x :: L, 0, _, a => by simp [insc]
  | x :: L, p + 1, h, a => by
    have ih := insc_set_b L p (by simpa using h) a
    simp only [List.flatMap_cons, List.set_cons_succ, List.getElem_cons_succ]
    rw [← ih, show (p + 1) * 4 + 2 = (insc x).length + (p * 4 + 2) by simp [insc]; omega, List.set_append_right _ _ (by omega)]
    simp

/-- So far: behind X these are written; the stack is so high, and was. -/
structure WrS (base g : Nat) (X : List Ins) (now0 high0 H : Nat) (w0 w : World) (now : Nat) (Y : List Ins) (high : Nat) : Prop where
  wr : WrI w base g (X ++ Y) now high
  lo : high0 ≤ high
  hi : high ≤ max high0 (now0 + H)
  ok : ∀ y ∈ Y, okI (X.length + Y.length) y = true
  fr : FrW base w0 w
  bw : base ≤ w.heap.size
section
variable {base g : Nat} {X : List Ins} {now0 high0 H : Nat} {w0 w w' : World} {now : Nat} {Y : List Ins} {high : Nat}
theorem WrS.start (h : WrI w base g X now0 high0) (hb : base ≤ w.heap.size) : WrS base g X now0 high0 H w w now0 [] high0 :=
  ⟨by rw [List.append_nil]; exact h, Nat.le_refl _, Nat.le_max_left _ _, fun y hy => (by cases hy), FrW.refl _ _, hb⟩
theorem WrS.below (h : WrS base g X now0 high0 H w0 w now Y high) (hb : Below w.heap.size w w') : WrS base g X now0 high0 H w0 w' now Y high :=
  ⟨h.wr.below hb, h.lo, h.hi, h.ok, h.fr.trans (FrW.of hb h.bw), Nat.le_trans h.bw hb.size⟩
theorem WrS.wrote (h : WrS base g X now0 high0 H w0 w now Y high) {now' hh sz : Nat} {e : Ending} (hw : Wrote base g (X ++ Y) now high now' hh sz w e w') (hH : now + hh ≤ now0 + H) :
    ∃ Z high', e = .returned (.tuple #[]) ∧ WrS base g X now0 high0 H w0 w' now' (Y ++ Z) high' ∧ Z.length ≤ sz ∧ FrW base w w' := by
  obtain ⟨Z, high', he, h1, h2, h3, h4, h5, h6⟩ := hw
  refine ⟨Z, high', he, ⟨by rw [← List.append_assoc]; exact h1, Nat.le_trans h.lo h2, ?_, fun y hy => ?_, h.fr.trans h6, Nat.le_trans h.bw h6.below.size⟩, h4, h6⟩
  · have := h.hi
    omega
  · rw [List.length_append] at h5 ⊢
    rcases List.mem_append.1 hy with hy | hy
    · exact okI_mono (by omega) (h.ok y hy)
    · exact okI_mono (by omega) (h5 y hy)
theorem WrS.op (h : WrS base g X now0 high0 H w0 w now Y high) {A : Option Addr} {c : Nat} {i : Ins} {e : Ending} (ho : OpRet base g (X ++ Y) now high A c i w e w') (hi : okI (X.length + Y.length + 1) i = true) :
    e = .returned (.int .i64 ((X.length + Y.length : Nat) : Int)) ∧ WrS base g X now0 high0 H w0 w' now (Y ++ [i]) high ∧ FrW base w w' := by
  obtain ⟨A', c', he, h1, h2, _⟩ := ho
  refine ⟨by rw [he, List.length_append], ⟨by rw [← List.append_assoc]; exact h1.i, h.lo, h.hi, fun y hy => ?_, h.fr.trans h2, Nat.le_trans h.bw h2.below.size⟩, h2⟩
  rw [List.length_append, List.length_singleton, ← Nat.add_assoc]
  rcases List.mem_append.1 hy with hy | hy
  · exact okI_mono (by omega) (h.ok y hy)
  · rw [List.mem_singleton.1 hy]; exact hi
theorem WrS.push (h : WrS base g X now0 high0 H w0 w now Y high) {m : Nat} {e : Ending} (ho : PushRet base g (X ++ Y) m (max high m) w e w') (hm : m ≤ now0 + H) :
    e = .returned (.tuple #[]) ∧ WrS base g X now0 high0 H w0 w' m Y (max high m) ∧ FrW base w w' := by
  obtain ⟨he, h1, h2⟩ := ho
  refine ⟨he, ⟨h1, Nat.le_trans h.lo (Nat.le_max_left _ _), ?_, h.ok, h.fr.trans h2, Nat.le_trans h.bw h2.below.size⟩, h2⟩
  have := h.hi
  omega
theorem WrS.done (h : WrS base g X now0 high0 H w0 w now Y high) {sz : Nat} (hs : Y.length ≤ sz) : Wrote base g X now0 high0 now H sz w0 (.returned (.tuple #[])) w :=
  ⟨Y, high, rfl, h.wr, h.lo, h.hi, hs, h.ok, h.fr⟩
/-- A place is filled in. -/
theorem WrS.patch (h : WrS base g X now0 high0 H w0 w now Y high) {q : Nat} (hq : q < Y.length) :
    ∃ ga c, WrA w base g (X ++ Y) now high (some ⟨ga, 0, none⟩) c ∧
      (∃ u, w.cell? ⟨ga, (X.length + q) * 4 + 1, none⟩ = some u) ∧ w.frozen? ⟨ga, (X.length + q) * 4 + 1, none⟩ = false ∧
      (∃ u, w.cell? ⟨ga, (X.length + q) * 4 + 2, none⟩ = some u) ∧ w.frozen? ⟨ga, (X.length + q) * 4 + 2, none⟩ = false ∧
      (∀ a : Nat, a ≤ X.length + Y.length → ∃ Z, Z.length = Y.length ∧ WrS base g X now0 high0 H w0 (w.setCell ⟨ga, (X.length + q) * 4 + 1, none⟩ (.int .i64 a)) now Z high) ∧
      (∀ a : Nat, a ≤ X.length + Y.length → ∃ Z, Z.length = Y.length ∧ WrS base g X now0 high0 H w0 (w.setCell ⟨ga, (X.length + q) * 4 + 2, none⟩ (.int .i64 a)) now Z high) := by
  obtain ⟨A, c, h0, h1, h2⟩ := h.wr.at_
  have hlen : (X ++ Y).length = X.length + Y.length := List.length_append
  obtain ⟨ga, rfl⟩ : ∃ ga, A = some ⟨ga, 0, none⟩ := by
    rcases h2.2 with ⟨he, h0⟩ | ⟨g', cap, cur, he, _⟩
    · rw [hlen] at h0; omega
    · injection he with he1 _ _
      exact ⟨g', he1⟩
  have hbg : base ≤ ga := (h2.lt ga rfl).1
  have hp : X.length + q < (X ++ Y).length := by rw [hlen]; omega
  have hl4 : ((X ++ Y).flatMap insc).length = (X ++ Y).length * 4 := flat_len insc_len _
  have hblk : ∃ cs, Blk w ga 53 cs := by
    rcases h2.2 with ⟨he, _⟩ | ⟨g', cap, cur, he, _, hg, _⟩
    · cases he
    · injection he with he1 _ _
      injection he1 with he1
      injection he1 with he1 _ _
      subst he1
      exact ⟨cur, hg⟩
  obtain ⟨cs, hblk⟩ := hblk
  have hcell : ∀ j, j < (X ++ Y).length * 4 → ∃ u, w.cell? ⟨ga, j, none⟩ = some u := fun j hj => by
    have := h2.cellAt j hj
    rw [List.getElem?_eq_getElem (by rw [hl4]; exact hj)] at this
    exact ⟨_, this⟩
  have hok : ∀ (i' : Ins) (Z : List Ins), Z = Y.set q i' → (okI (X.length + Y.length) (Y[q]) = true → okI (X.length + Y.length) i' = true) → ∀ y ∈ Z, okI (X.length + Z.length) y = true := fun i' Z hZ hi y hy => by
    subst hZ
    rw [List.length_set]
    rcases List.mem_or_eq_of_mem_set hy with hy | rfl
    · exact h.ok y hy
    · exact hi (h.ok _ (List.getElem_mem hq))
  have hget : (X ++ Y)[X.length + q]'hp = Y[q] := by rw [List.getElem_append_right (by omega)]; simp
  have hset : ∀ i', (X ++ Y).set (X.length + q) i' = X ++ Y.set q i' := fun i' => by rw [List.set_append_right _ _ (by omega), Nat.add_sub_cancel_left]
  refine ⟨ga, c, ⟨h0, h1, h2⟩, hcell _ (by omega), h2.frozenAt _, hcell _ (by omega), h2.frozenAt _, fun a ha => ?_, fun a ha => ?_⟩
  · refine ⟨Y.set q ⟨Y[q].op, a, Y[q].b, Y[q].s⟩, by simp, ⟨⟨h0, _, (But.set w ((X.length + q) * 4 + 1) (.int .i64 a)).blk h1 (Blk.apart h1 hblk (by decide)), some ⟨ga, 0, none⟩, c, ?_, ?_⟩, h.lo, h.hi, hok _ _ rfl fun hi => ?_, h.fr.trans (frw_set hblk (by simp [tsW]) hbg h.bw _ _), Nat.le_trans h.bw (But.set (B := ga) w ((X.length + q) * 4 + 1) (.int .i64 a)).size⟩⟩
    · simp
    · have h3 := (h2.stored ((X.length + q) * 4 + 1) (.int .i64 a)).1
      rw [insc_set_a _ _ hp, hset, hget] at h3
      simpa using h3
    · unfold okI at *
      simp only [Bool.and_eq_true, Bool.or_eq_true, Bool.not_eq_true', decide_eq_true_eq] at *
      obtain ⟨⟨⟨⟨⟨h1, h2⟩, h3⟩, h4⟩, h5⟩, h6⟩ := hi
      exact ⟨⟨⟨⟨⟨h1, h2⟩, .inr ⟨by omega, by omega⟩⟩, h4⟩, .inr (by omega)⟩, h6⟩
  · refine ⟨Y.set q ⟨Y[q].op, Y[q].a, a, Y[q].s⟩, by simp, ⟨⟨h0, _, (But.set w ((X.length + q) * 4 + 2) (.int .i64 a)).blk h1 (Blk.apart h1 hblk (by decide)), some ⟨ga, 0, none⟩, c, ?_, ?_⟩, h.lo, h.hi, hok _ _ rfl fun hi => ?_, h.fr.trans (frw_set hblk (by simp [tsW]) hbg h.bw _ _), Nat.le_trans h.bw (But.set (B := ga) w ((X.length + q) * 4 + 2) (.int .i64 a)).size⟩⟩
    · simp
    · have h3 := (h2.stored ((X.length + q) * 4 + 2) (.int .i64 a)).1
      rw [insc_set_b _ _ hp, hset, hget] at h3
      simpa using h3
    · unfold okI at *
      simp only [Bool.and_eq_true, Bool.or_eq_true, Bool.not_eq_true', decide_eq_true_eq] at *
      obtain ⟨⟨⟨⟨⟨h1, h2⟩, h3⟩, h4⟩, h5⟩, h6⟩ := hi
      exact ⟨⟨⟨⟨⟨h1, h2⟩, h3⟩, .inr ⟨by omega, by omega⟩⟩, h5⟩, h6⟩
/-- The height is told anew. -/
theorem WrS.nowset (h : WrS base g X now0 high0 H w0 w now Y high) : w.cell? ⟨g, 1, none⟩ = some (.int .i64 now) ∧ w.frozen? ⟨g, 1, none⟩ = false ∧
    ∀ m : Nat, (m ≤ now ∨ m ≤ high) → WrS base g X now0 high0 H w0 (w.setCell ⟨g, 1, none⟩ (.int .i64 m)) m Y high ∧ FrW base w (w.setCell ⟨g, 1, none⟩ (.int .i64 m)) := by
  obtain ⟨h0, v, h1, A, c, rfl, h2⟩ := h.wr
  have c1 := h1.cell 1
  simp only [List.getElem?_toArray, List.getElem?_cons_zero, List.getElem?_cons_succ] at c1
  refine ⟨c1, h1.frozen 1, fun m hm => ?_⟩
  have hf := frw_set h1 (by simp [tsW]) h0.1 h.bw 1 (.int .i64 m)
  exact ⟨⟨⟨⟨h0.1, hm.elim (fun hm => Nat.le_trans hm h0.2) id⟩, _, by simpa using h1.set 1 (.int .i64 m), A, c, rfl, own_but h2 (But.set w 1 _) h1 (by decide)⟩, h.lo, h.hi, h.ok, h.fr.trans hf, Nat.le_trans h.bw hf.below.size⟩, hf⟩
end
/-- A command is written. -/
def DoOk (t : Tr) : Prop := ∀ (base g : Nat) (X : List Ins) (now high : Nat) (v : Value) (w : World), WrI w base g X now high → SlS base w v (flat t) → base ≤ w.heap.size → X.length + 8 * (flat t).length ≤ 30000000 → now + (flat t).length ≤ 30000000 → high ≤ 30000000 →
  Calls Tryd.prog 38 #[.pointer (some ⟨g, 0, none⟩), v] w (Wrote base g X now high now (heightT t) (8 * (flat t).length - 3) w)
/-- A word is written. -/
def WordOk (t : Tr) : Prop := ∀ (base g : Nat) (X : List Ins) (now high : Nat) (v : Value) (w : World), WrI w base g X now high → SlS base w v (flat t) → base ≤ w.heap.size → X.length + 8 * (flat t).length ≤ 30000000 → now + (flat t).length ≤ 30000000 → high ≤ 30000000 →
  Calls Tryd.prog 92 #[.pointer (some ⟨g, 0, none⟩), v] w (Wrote base g X now high (now + 1) (heightT t) (8 * (flat t).length - 3) w)
end Go.Proofs.YthmeonimianoeaaDoor
