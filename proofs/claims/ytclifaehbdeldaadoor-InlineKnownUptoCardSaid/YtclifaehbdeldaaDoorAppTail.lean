/- append of one element onto the tail s[1:] of a row of one's own: in place, or in a new row. No condition. -/
import Derived.Test.YtclifaehbdeldaaDoorBase
import Derived.Test.YtclifaehbdeldaaDoorBut
import Derived.Test.YtclifaehbdeldaaDoorNode
import Derived.ArgAppend
set_option linter.unusedVariables false
set_option linter.unusedSimpArgs false
namespace Go.Proofs.YtclifaehbdeldaaDoor
open Go.RowKit

theorem own_block {w : World} {base n c g : Nat} {e : TypeId} {sz : Nat} {xs : List Value} (h : w.ownsRow base e sz (.slice (some ⟨g, 0, none⟩) n c) n xs) : ∃ cur, w.heap[g]? = some (.cells cur e (0, 0)) ∧ cur.size = c * sz ∧ base ≤ g ∧ n ≤ c ∧ c ≤ maxLen := by
  rcases h.2 with ⟨h', _⟩ | ⟨g', cap', cur, h', hb, hg, hnc, hcm, hcs, htake⟩
  · simp at h'
  · simp only [Value.slice.injEq, Option.some.injEq, Addr.mk.injEq, and_true, true_and] at h'
    obtain ⟨rfl, rfl⟩ := h'
    exact ⟨cur, hg, hcs, hb, hnc, hcm⟩

theorem wpList_tail1 {P : Program} {ops : Array Oper} {Q : Exit → Act → World → Prop} {a : Act} {w : World} {rest : List Oper} {o : Oper} (hgd : o.guard = none) (s x : Operand) (t : TypeId) (ho : o.op = .call { callee := .builtin .append, args := #[s, x], argTypes := #[t, t] })
    {e : TypeId} {i : TypeInfo} {z : Value} {bytes : Nat} (ht : P.underlying t = some (.slice e)) (hi : P.info? e = some i) (hz : i.zero = some z) (hsize : i.size = 1) (hby : i.bytes = bytes) (hzs : z.cells.size = 1)
    {base n c g q m' c'' : Nat} {us : List Value} {u : Value} (hown : w.ownsRow base e 1 (.slice (some ⟨g, 0, none⟩) n c) n us) (hn : 0 < n) (hq : q = 1 ∨ c = 1)
    (hs : a.eval s = .slice (some ⟨g, q, none⟩) m' c'') (hm : m' = n - 1) (hc : c'' = c - 1) (hx : a.eval x = .slice (some ⟨w.heap.size, 0, none⟩) 1 1) (h1 : u.oneCell' = true)
    (hbytes : n * bytes ≤ 140737488355328) (hbase : base ≤ w.heap.size)
    (h : ∀ A' c' w', RdL w' 1 one1 A' (us.tail ++ [u]) → (A' = none → c' = 0) → Below base w w' → Others [e] w w' → n ≤ c' → wpList P ops Q rest (a.put o.dst (.slice A' n c')) w') :
    wpList P ops Q (o :: rest) a (w.alloc (.cells #[u] e)) := by
  obtain ⟨cur, hg, hcs, hgb, hnc, hcm⟩ := own_block hown
  have hgl : g < w.heap.size := (Array.getElem?_eq_some_iff.1 hg).1
  obtain ⟨W, hW⟩ : ∃ W, W = w.alloc (.cells #[u] e) := ⟨_, rfl⟩
  have hba : Below w.heap.size w W := by rw [hW]; exact (Below.refl _ _).alloc (Nat.le_refl _) _
  have hoa : w.heap.size < W.heap.size := by rw [hW]; simp
  have hnew : W.cell? ⟨w.heap.size, 0, none⟩ = some u := by rw [hW, cell_of_row _ _ 0 #[u] e (0, 0) (heap_alloc_new w _)]; rfl
  rw [← hW]
  have hown' := own_below hown hba
  have hg' : W.heap[g]? = some (.cells cur e (0, 0)) := (hba.block g hgl).trans hg
  have hul : us.length = n := by have := hown.1; omega
  have htl : us.tail.length = m' := by rw [List.length_tail, hul, hm]
  have hmn : m' + 1 = n := by omega
  refine wpList_append_arg W hgd s x t ho e i z 1 bytes ht hi hz hsize hby hzs (by decide) g q m' c'' us.tail hs (by rw [htl]; omega) ?_ ⟨w.heap.size, 0, none⟩ 1 1 [u] hx rfl ?_ (by simpa using h1) ?_ (by omega) (by rw [hmn]; exact hbytes) ?_ ?_
  · intro j v hj
    have hjl : j < us.tail.length := (List.getElem?_eq_some_iff.1 hj).1
    rcases hq with rfl | hc1
    · rw [hown'.cellAt (1 + j) (by omega), ← hj, List.getElem?_tail, Nat.add_comm]
    · omega
  · intro j v hj
    cases j with
    | zero =>
      simp only [List.getElem?_cons_zero, Option.some.injEq] at hj
      subst hj
      exact hnew
    | succ j => simp at hj
  · intro hr j hj
    have hj0 : j = 0 := by simpa using hj
    subst hj0
    rcases hq with rfl | hc1
    · have hlt : 1 + m' * 1 + 0 < cur.size := by omega
      refine ⟨?_, ?_⟩
      · rw [cell_of_row W g _ cur e (0, 0) hg', Array.getElem?_eq_getElem hlt]
        rfl
      · simp [World.frozen?, hg']
    · omega
  · intro hr
    rcases hq with rfl | hc1
    · have hlt : 1 + m' * 1 < cur.size := by omega
      have hin := World.cell?_setCells_in g [u] (1 + m' * 1) W (fun j hj => by
        have hj0 : j = 0 := by simpa using hj
        subst hj0
        rw [cell_of_row W g _ cur e (0, 0) hg', Array.getElem?_eq_getElem (by omega)]
        rfl)
      have hbw : Below base w (W.setCells g (1 + m' * 1) [u]) := (hba.mono hbase).trans ((But.set W (1 + m' * 1) u).below hgb (Nat.le_trans hbase hba.size))
      have hot : Others [e] w (W.setCells g (1 + m' * 1) [u]) := (Others.of_below hba).trans (Others.setCell (p := ⟨g, 1 + m' * 1, none⟩) hg' (by simp) u)
      have key := h (some ⟨g, 1, none⟩) c'' (W.setCells g (1 + m' * 1) [u]) (fun k hk => ⟨g, 1, rfl, Nat.lt_of_lt_of_le hgl hbw.size, fun j v hj => ?_⟩) (fun h => by cases h) hbw hot (by omega)
      · rw [hmn]
        exact key
      · have hj0 : j = 0 := by
          have := (List.getElem?_eq_some_iff.1 hj).1
          simp [one1] at this
          exact this
        subst hj0
        simp only [one1, List.getElem?_cons_zero, Option.some.injEq] at hj
        subst hj
        simp only [List.length_append, List.length_cons, List.length_nil, htl] at hk
        by_cases hkm : k < m'
        · rw [World.cell?_setCells_out g [u] _ W _ (fun _ _ => .inl (by simp; omega))]
          rw [List.getElem_append_left (by omega), show 1 + k * 1 + 0 = 1 + k by omega, hown'.cellAt (1 + k) (by omega), List.getElem_tail, Nat.add_comm]
          exact List.getElem?_eq_getElem _
        · obtain rfl : k = m' := by omega
          have := hin 0 (by simp)
          simp only [Nat.add_zero] at this ⊢
          rw [this, List.getElem_append_right (by omega)]
          simp [htl]
    · omega
  · intro hr v' w' hown2 hg2
    have hb2 : Below W.heap.size W w' := (Below.refl _ _).grown hg2 (Nat.le_refl _) (fun k hk => by cases hk)
    have hl2 : (us.tail ++ [u]).length = n := by simp [htl]; omega
    rw [hmn] at hown2
    have h4 : w'.ownsRow W.heap.size e 1 v' n ((us.tail ++ [u]).flatMap one1) := by rw [one1_flat]; exact hown2
    obtain ⟨A', c', rfl, h5, h6, h7, h8⟩ := RdL.of_own one1_len h4 hl2.symm
    have hbw : Below w.heap.size w w' := hba.trans (hb2.mono (Nat.le_of_lt hoa))
    exact h A' c' w' h7 h8 (hbw.mono hbase) (Others.of_below hbw) h5
end Go.Proofs.YtclifaehbdeldaaDoor
