/- A queue in memory: a row of one's own from which the first are taken, and onto whose end is appended. No condition. -/
import Derived.Test.YtpogngdddendiaaDoorGB
import Derived.Test.YtpogngdddendiaaDoorBut
import Derived.ArgAppend
set_option linter.unusedVariables false
set_option linter.unusedSimpArgs false
namespace Go.Proofs.YtpogngdddendiaaDoor
open Go.RowKit

/-- The numbers xs lie at place q of block g, room for c. -/
structure QR (w : World) (base g q c : Nat) (xs : List Nat) : Prop where
  blk : ∃ cur, Blk w g 3 cur ∧ q + c ≤ cur.size ∧ ∀ (j x : Nat), xs[j]? = some x → cur[q + j]? = some (.int .i64 (x : Int))
  base : base ≤ g
  cap : xs.length ≤ c
section
variable {w w' : World} {base g q c : Nat} {xs : List Nat}
theorem QR.cell (h : QR w base g q c xs) {j x : Nat} (hj : xs[j]? = some x) : w.cell? ⟨g, q + j, none⟩ = some (.int .i64 (x : Int)) := by
  obtain ⟨cur, hb, _, hc⟩ := h.blk
  rw [hb.cell]
  exact hc j x hj
theorem QR.keep (h : QR w base g q c xs) (hb : ∀ cur, Blk w g 3 cur → Blk w' g 3 cur) : QR w' base g q c xs := by
  obtain ⟨cur, h1, h2⟩ := h.blk
  exact ⟨⟨cur, hb cur h1, h2⟩, h.base, h.cap⟩
theorem QR.below (h : QR w base g q c xs) (hb : Below w.heap.size w w') : QR w' base g q c xs := h.keep fun _ h => h.below hb
theorem QR.but {B : Nat} {t : TypeId} {cs : Array Value} (h : QR w base g q c xs) (hb : But B w w') (hB : Blk w B t cs) (hn : 3 ≠ t) : QR w' base g q c xs := h.keep fun _ h => hb.blk h (h.apart hB hn)
/-- The first is taken. -/
theorem QR.pop {x : Nat} (h : QR w base g q c (x :: xs)) : QR w base g (if c = 1 then q else q + 1) (c - 1) xs := by
  obtain ⟨cur, h1, h2, h3⟩ := h.blk
  have hc := h.cap
  rw [List.length_cons] at hc
  refine ⟨⟨cur, h1, ?_, fun j y hj => ?_⟩, h.base, by omega⟩
  · split <;> omega
  · have hl := (List.getElem?_eq_some_iff.1 hj).1
    rw [if_neg (by omega)]
    have := h3 (j + 1) y (by simpa using hj)
    rw [show q + 1 + j = q + (j + 1) by omega]
    exact this
theorem QR.lit (w : World) (x : Nat) : QR (w.alloc (.cells #[.int .i64 (x : Int)] 3)) w.heap.size w.heap.size 0 1 [x] :=
  ⟨⟨_, Blk.new w _ _, by simp, fun j y hj => by
    cases j with
    | zero => simp at hj; subst hj; rfl
    | succ j => simp at hj⟩, Nat.le_refl _, Nat.le_refl _⟩
theorem QR.mono {base' : Nat} (h : QR w base g q c xs) (hb : base' ≤ base) : QR w base' g q c xs := ⟨h.blk, Nat.le_trans hb h.base, h.cap⟩
end
theorem setCells_one (w : World) (g i : Nat) (u : Value) : w.setCells g i [u] = w.setCell ⟨g, i, none⟩ u := rfl
set_option maxRecDepth 100000 in
theorem wpList_qpush {ops : Array Oper} {Q : Exit → Act → World → Prop} {a : Act} {w : World} {rest : List Oper} {o : Oper} (hgd : o.guard = none) (s x : Operand) (ho : o.op = .call { callee := .builtin .append, args := #[s, x], argTypes := #[45, 45] })
    {base g q c n k : Nat} {xs : List Nat} (hq : QR w base g q c xs) (hn : xs.length = n) (hs : a.eval s = .slice (some ⟨g, q, none⟩) n c) (hx : a.eval x = .slice (some ⟨w.heap.size, 0, none⟩) 1 1) (hb : n + 1 ≤ 1000000) (hbase : base ≤ w.heap.size)
    (h : ∀ g' q' c' w', QR w' base g' q' c' (xs ++ [k]) → But g w w' → Below base w w' → Others [3] w w' → (g' = g ∨ w.heap.size ≤ g') → wpList Tryd.prog ops Q rest (a.put o.dst (.slice (some ⟨g', q', none⟩) (n + 1) c')) w') :
    wpList Tryd.prog ops Q (o :: rest) a (w.alloc (.cells #[.int .i64 (k : Int)] 3)) := by
  obtain ⟨i0, hi, hz0, hz1, hz2⟩ := info_parts infoIntC
  obtain ⟨W, hW⟩ : ∃ W, W = w.alloc (.cells #[.int .i64 (k : Int)] 3) := ⟨_, rfl⟩
  have hba : Below w.heap.size w W := by rw [hW]; exact (Below.refl _ _).alloc (Nat.le_refl _) _
  have hnew : W.cell? ⟨w.heap.size, 0, none⟩ = some (.int .i64 (k : Int)) := by rw [hW, cell_of_row _ _ 0 #[.int .i64 (k : Int)] 3 (0, 0) (heap_alloc_new w _)]; rfl
  rw [← hW]
  have hqW := hq.below hba
  obtain ⟨cur, hB, hsz, hcs⟩ := hqW.blk
  have hcap := hq.cap
  refine wpList_append_arg W hgd s x 45 ho 3 i0 (.int .i64 0) 1 8 Tryd.underlying45 hi hz0 hz1 hz2 rfl (by decide) g q n c (xs.map fun x : Nat => .int .i64 (x : Int)) hs (by simp [hn]) ?_ ⟨w.heap.size, 0, none⟩ 1 1 [.int .i64 (k : Int)] hx rfl ?_ (by simp [Value.oneCell']) ?_ (by unfold maxLen; omega) (by omega) ?_ ?_
  · intro j v hj
    rw [List.getElem?_map] at hj
    cases hxj : xs[j]? with
    | none => rw [hxj] at hj; cases hj
    | some y =>
      rw [hxj] at hj
      injection hj with hj
      subst hj
      exact hqW.cell hxj
  · intro j v hj
    cases j with
    | zero =>
      simp only [List.getElem?_cons_zero, Option.some.injEq] at hj
      subst hj
      exact hnew
    | succ j => simp at hj
  · intro hr j hj
    have hj0 : j = 0 := by simpa using hj
    subst hj0
    have hlt : q + n * 1 + 0 < cur.size := by omega
    refine ⟨?_, hB.frozen _⟩
    rw [hB.cell, Array.getElem?_eq_getElem hlt]
    rfl
  · intro hr
    rw [Nat.mul_one, setCells_one]
    have hbut := But.set (B := g) W (q + n) (.int .i64 (k : Int))
    refine h g q c _ ⟨⟨_, hB.set (q + n) _, by rw [Array.size_setIfInBounds]; exact hsz, fun j y hj => ?_⟩, hq.base, by rw [List.length_append]; simp; omega⟩ ((But.of hba).trans hbut) ((hba.mono hbase).trans (hbut.below hq.base (Nat.le_trans hbase hba.size))) ((Others.of_below hba).trans (Others.setCell (p := ⟨g, q + n, none⟩) hB (by simp) _)) (.inl rfl)
    rw [Array.getElem?_setIfInBounds]
    rw [List.getElem?_append] at hj
    split at hj
    · rename_i hjl
      rw [if_neg (by omega)]
      exact hcs j y hj
    · rename_i hjl
      have hj0 : j = n := by
        have := (List.getElem?_eq_some_iff.1 hj).1
        simp at this
        omega
      subst hj0
      rw [hn, Nat.sub_self] at hj
      simp at hj
      subst hj
      rw [if_pos rfl, if_pos (by omega)]
  · intro hr v' w' hown2 hg2
    have hb2 : Below W.heap.size W w' := (Below.refl _ _).grown hg2 (Nat.le_refl _) (fun k hk => by cases hk)
    have hbw : Below w.heap.size w w' := hba.trans (hb2.mono hba.size)
    rcases hown2.2 with ⟨_, h0⟩ | ⟨g', cap', cur', rfl, hgb, hgg, hnc, hcm, hcs', htk⟩
    · omega
    · refine h g' 0 cap' w' ⟨⟨cur', hgg, by omega, fun j y hj => ?_⟩, by have := hba.size; omega, by rw [List.length_append]; simp; omega⟩ (But.of hbw) (hbw.mono hbase) (Others.of_below hbw) (.inr (by have := hba.size; omega))
      have hjl : j < n + 1 := by
        have := (List.getElem?_eq_some_iff.1 hj).1
        rw [List.length_append] at this
        simp at this
        omega
      have h1 : (cur'.toList.take ((n + 1) * 1))[j]? = some (.int .i64 (y : Int)) := by
        rw [htk]
        have h2 : ((xs ++ [k]).map fun x : Nat => Value.int .i64 (x : Int))[j]? = some (.int .i64 (y : Int)) := by rw [List.getElem?_map, hj]; rfl
        rw [List.map_append] at h2
        exact h2
      rw [Nat.mul_one, List.getElem?_take, if_pos hjl] at h1
      rw [Nat.zero_add, ← Array.getElem?_toList]
      exact h1
end Go.Proofs.YtpogngdddendiaaDoor
