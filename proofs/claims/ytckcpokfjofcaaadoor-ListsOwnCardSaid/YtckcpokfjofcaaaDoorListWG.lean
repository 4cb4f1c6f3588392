/- The walk over patoisref.Texts; append onto one of several rows of the call's own. Bounds on the lengths. -/
import Derived.Test.YtckcpokfjofcaaaDoorListW9
import Derived.Maps.AppendAt
import Derived.Outline
set_option linter.unusedVariables false
set_option linter.unusedSimpArgs false
namespace Go.Proofs.YtckcpokfjofcaaaDoor
open Go.RowKit

set_option maxHeartbeats 2000000 in
theorem texts_any (v : Value) (L : List (List UInt8)) (w : World) (hv : SlS w v L) (hL : L.length ≤ 1000000) : Calls Tryd.prog 14 #[v] w (OwnRet L w) := by
  obtain ⟨A, cp, rfl, hrd, _⟩ := hv
  obtain ⟨i0, hi, hz0, hz1, hz2⟩ := info_parts infoStr
  obtain ⟨m, hm⟩ : ∃ m, m = L.length := ⟨_, rfl⟩
  rw [← hm] at hL ⊢
  have HM := Lib.hid hm
  clear hm
  go_enter Tryd.func14, Tryd.ntmps14
  go_wp2_with (at_make; refine wpList_make_own w rfl _ _ _ rfl w.heap.size _ i0 _ 1 Tryd.underlying22 hi hz0 hz1 .i64 .i64 m m rfl rfl rfl (by rw [hz2]; omega) (by unfold maxLen; omega) (Nat.le_refl _) ?_; intro w1 ho1 hg1; have hb1 := (Below.refl w.heap.size w).grown hg1 (Nat.le_refl _) (fun k h => by cases h))
  go_loopw [3, 4] (fun v i wr => ∃ (k : Nat) (A' : Option Addr) (c' : Nat), k ≤ m ∧ i = .int .i64 k ∧ v = .slice A' k c' ∧ wr.ownsRow w.heap.size 9 1 (.slice A' k c') k ((L.take k).flatMap strc) ∧ Below w.heap.size w wr) (fun _ i _ => m - (intOf i).toNat)
  case atStart => exact ⟨0, _, m, Nat.zero_le _, rfl, rfl, ho1, hb1⟩
  case round =>
    obtain ⟨k, A', c', hk, rfl, rfl, hown, hb⟩ := hrel
    by_cases hlt : k < m
    · have hlt' : k < L.length := by rw [← HM.out]; exact hlt
      obtain ⟨b, o, rfl⟩ := hrd.ats hlt'
      have h0 := cell_keep hb (hrd.strs hlt')
      have HS := Lib.hid (show (L.take (k + 1)).flatMap strc = (L.take k).flatMap strc ++ strc L[k] by
        rw [List.take_succ_eq_append_getElem hlt', List.flatMap_append]; simp)
      generalize L[k] = x at *
      clear hlt' ho1
      go_wp2_with (at_builtin; refine wpList_push rfl _ _ _ rfl Tryd.underlying22 hi hz0 hz1 hz2 rfl (by decide) hown rfl rfl rfl (by simp [Value.oneCell']) (by omega) (by decide) hb.size ?_; intro A2 c2 w2 hown2 hb2 hoo2)
      go_roundw
      case rel => exact ⟨k + 1, A2, c2, by omega, by go_num, rfl, by rw [HS.out]; exact hown2, hb.trans hb2⟩
      case measure => simp [intOf]; omega
    · obtain rfl : k = m := by omega
      have HS := Lib.hid (show L.take k = L by rw [HM.out, List.take_length])
      go_wp2_with fail
      go_ret
      exact ⟨_, rfl, by unfold OwnS; rw [HS.out] at hown; rw [← HM.out]; exact hown, hb⟩

section
variable {P : Program} {ops : Array Oper} {Q : Exit → Act → World → Prop} {a : Act} {w : World} {rest : List Oper} {o : Oper}
/-- append of one element, with the place where the new row lies. -/
theorem wpList_push_at (hgd : o.guard = none) (s x : Operand) (t : TypeId) (ho : o.op = .call { callee := .builtin .append, args := #[s, x], argTypes := #[t, t] })
    {e : TypeId} {i : TypeInfo} {z : Value} {sz bytes : Nat} (ht : P.underlying t = some (.slice e)) (hi : P.info? e = some i) (hz : i.zero = some z) (hsize : i.size = sz) (hby : i.bytes = bytes) (hzs : z.cells.size = sz) (hsz : 0 < sz)
    {base n : Nat} {v : Value} {xs : List Value} {cs : Array Value} (hown : w.ownsRow base e sz v n xs) (hs : a.eval s = v) (hx : a.eval x = .slice (some ⟨w.heap.size, 0, none⟩) 1 1) (hcs : cs.size = sz) (h1 : ∀ u ∈ cs.toList, u.oneCell' = true)
    (hbytes : (n + 1) * bytes ≤ 140737488355328) (hb0 : 0 < bytes) (hbase : base ≤ w.heap.size)
    (h : ∀ A' c' w', w'.ownsRow base e sz (.slice A' (n + 1) c') (n + 1) (xs ++ cs.toList) → w.grownBy w' v.ownBlock → (∀ g, (Value.slice A' (n + 1) c').ownBlock = some g → v.ownBlock = some g ∨ w.heap.size ≤ g) → wpList P ops Q rest (a.put o.dst (.slice A' (n + 1) c')) w') :
    wpList P ops Q (o :: rest) a (w.alloc (.cells cs e)) := by
  refine wpList_append_own_at _ hgd s x t ho base e i z sz bytes ht hi hz hsize hby hzs hsz v n xs hs (hown.alloc _) ⟨w.heap.size, 0, none⟩ 1 1 cs.toList hx (by simp [hcs]) ?_ h1 ?_ hbytes (by simp; omega) ?_
  · intro j u hu
    rw [Addr.add_lit, Nat.zero_add, cell_of_row _ _ j cs e (0, 0) (heap_alloc_new w _)]
    simpa using hu
  · have := Nat.le_mul_of_pos_right (n + 1) hb0
    simp only [maxLen]; omega
  · intro v' w' hown' hgrow _ hat
    obtain ⟨A', c', rfl, _⟩ := own_form hown'
    refine h A' c' w' hown' ((World.grownBy_alloc w _ _).trans hgrow) fun g hg => ?_
    rcases hat with hat | hat
    · exact .inl (hat.symm.trans hg)
    · rw [hg] at hat
      injection hat with hat
      right
      rw [hat, alloc_size]
      omega
end
/-- A row of texts of the call's own, whatever is in it. -/
def Wr (w : World) (B : Nat) (v : Value) : Prop := ∃ A n c xs, v = .slice A n c ∧ n ≤ 1000000 ∧ w.ownsRow B 9 1 v n xs
theorem Wr.below {w w' : World} {B : Nat} {v : Value} (h : Wr w B v) (hb : Below w.heap.size w w') : Wr w' B v :=
  let ⟨A, n, c, xs, h1, h2, h3⟩ := h
  ⟨A, n, c, xs, h1, h2, own_below h3 hb⟩
/-- .. stays one where a cell of any row is stored. -/
theorem Wr.stored {w : World} {B g j : Nat} {u v : Value} {n cap : Nat} {xs : List Value} (h : Wr w B v) (hg : w.ownsRow B 9 1 (.slice (some ⟨g, 0, none⟩) n cap) n xs) : Wr (w.setCell ⟨g, j, none⟩ u) B v := by
  obtain ⟨A, m, c, ys, rfl, hm, ho⟩ := h
  by_cases hA : A = some ⟨g, 0, none⟩
  · subst hA
    exact ⟨_, m, c, _, rfl, hm, (ho.stored j u).1⟩
  · refine ⟨A, m, c, ys, rfl, hm, ho.kept (hg.stored j u).2 ?_⟩
    rcases ho.2 with ⟨he, _⟩ | ⟨g', cap', cur, he, _⟩
    · injection he with he1
      subst he1
      exact .inl rfl
    · injection he with he1
      subst he1
      refine .inr fun h => hA ?_
      simp only [Value.ownBlock, Option.some.injEq] at h
      rw [h]
theorem Wr.of {w : World} {B B' : Nat} {A : Option Addr} {n c m : Nat} {xs : List Value} (h : w.ownsRow B' 9 1 (.slice A n c) m xs) (hn : n = m) (hB : B ≤ B') (hm : m ≤ 1000000) : Wr w B (.slice A n c) := by
  subst hn
  exact ⟨A, n, c, xs, rfl, hm, own_mono h hB⟩
end Go.Proofs.YtckcpokfjofcaaaDoor
