/- append of one element onto a row of the call's own that is full: the new row lies in the block just made. No condition. -/
import Derived.Test.YthmeonimianoeaaDoorBase
import Derived.Maps.AppendAt
import Derived.Deep.DeepAppendRoom
set_option linter.unusedVariables false
set_option linter.unusedSimpArgs false
namespace Go.Proofs.YthmeonimianoeaaDoor
open Go.RowKit

section
variable {P : Program} (w : World)
theorem run_append_full (base : Nat) (t ty e : TypeId) (i : TypeInfo) (z : Value) (size bytes : Nat) (ht : P.underlying t = some (.slice e)) (hi : P.info? e = some i) (hz : i.zero = some z)
    (hsize : i.size = size) (hby : i.bytes = bytes) (hzs : z.cells.size = size) (hsz : 0 < size)
    (v : Value) (n cap : Nat) (A : Option Addr) (hv : v = .slice A n cap) (xs : List Value) (hown : w.ownsRow base e size v n xs)
    (a : Addr) (m c : Nat) (news : List Value) (hl : news.length = m * size) (hnews : ∀ j u, news[j]? = some u → w.cell? (a.add j) = some u)
    (h63 : n + m ≤ maxLen) (hbytes : (n + m) * bytes ≤ 140737488355328) (hbase : base ≤ w.heap.size) (hfull : cap < n + m) :
    ∃ c' w', (Builtin.append_ #[t, t] ty #[v, .slice (some a) m c]).run P w = .ok (.slice (some ⟨w.heap.size, 0, none⟩) (n + m) c') w' ∧ w'.ownsRow base e size (.slice (some ⟨w.heap.size, 0, none⟩) (n + m) c') (n + m) (xs ++ news) ∧ w.grownBy w' none := by
  subst hsize
  subst hby
  have hsmall : n + m ≤ 9223372036854775807 := by simp only [maxLen] at h63; omega
  have hlen : (xs ++ news).length = (n + m) * i.size := by rw [List.length_append, hown.1, hl, Nat.add_mul]
  have grown : ∀ (old : Nat), old < n + m →
      (w.drew.alloc (.cells (xs.toArray ++ news.toArray ++ Builtin.zeroCells z.cells (grownCap w (n + m) old e - (n + m))) e)).ownsRow base e i.size
        (.slice (some ⟨w.heap.size, 0, none⟩) (n + m) (grownCap w (n + m) old e)) (n + m) (xs ++ news) ∧
      w.grownBy (w.drew.alloc (.cells (xs.toArray ++ news.toArray ++ Builtin.zeroCells z.cells (grownCap w (n + m) old e - (n + m))) e)) none := by
    intro old ho
    have hge := grownCap_ge w (n + m) old e
    have hcm : grownCap w (n + m) old e ≤ maxLen := grownCap_le_maxLen w (n + m) old e h63
    refine ⟨⟨hlen, .inr ⟨w.heap.size, _, _, rfl, hbase, heap_alloc_new w.drew _, hge, hcm, ?_, ?_⟩⟩, ⟨rfl, rfl, rfl, by simp, fun k hk _ => _root_.Go.heap_alloc_old w.drew _ hk⟩⟩
    · simp only [Array.size_append, List.size_toArray, size_zeroCells, hzs, hown.1, hl, ← Nat.add_mul]
      congr 1
      omega
    · simp only [Array.toList_append, List.append_assoc]
      rw [← List.append_assoc, ← hlen]
      exact List.take_left
  rcases hown.2 with ⟨hv0, rfl⟩ | ⟨g, cap', cur, hv0, hbg, hg, hnc, hcm, hcs, htake⟩
  · rw [hv] at hv0
    cases hv0
    subst hv
    have hx : xs = [] := List.eq_nil_of_length_eq_zero (by simpa using hown.1)
    subst hx
    have hr := run_append_nil (P := P) w t ty e i z ht hi hz a m c news hl hnews (by omega) (by omega) (by have hb := hbytes; simp only [Nat.zero_add] at hb; omega)
    have hgr := grown 0 (by omega)
    simp only [Nat.zero_add, List.nil_append, Array.empty_append] at hgr ⊢
    exact ⟨_, _, hr, hgr.1, hgr.2⟩
  · rw [hv] at hv0
    cases hv0
    subst hv
    have holds : ∀ j u, xs[j]? = some u → w.cell? ((⟨g, 0, none⟩ : Addr).add j) = some u := hown.cells (g := g) rfl
    have hr := run_append_grow (P := P) w t ty e i z ht hi hz ⟨g, 0, none⟩ n cap xs hown.1 holds a m c news hl hnews (by omega) (by omega) (growslice_fits (by omega) hbytes)
    have hgr := grown cap (by omega)
    exact ⟨_, _, hr, hgr.1, hgr.2⟩
end
section
variable {P : Program} {ops : Array Oper} {Q : Exit → Act → World → Prop} {a : Act} {w : World} {rest : List Oper} {o : Oper}
/-- append of one element just laid: in its place where there is room, else in the newest block, and then all that was there stands. -/
theorem wpList_push2 (hgd : o.guard = none) (s x : Operand) (t : TypeId) (ho : o.op = .call { callee := .builtin .append, args := #[s, x], argTypes := #[t, t] })
    {e : TypeId} {i : TypeInfo} {z : Value} {sz bytes : Nat} (ht : P.underlying t = some (.slice e)) (hi : P.info? e = some i) (hz : i.zero = some z) (hsize : i.size = sz) (hby : i.bytes = bytes) (hzs : z.cells.size = sz) (hsz : 0 < sz)
    {base n cap : Nat} {A : Option Addr} {xs : List Value} {cs : List Value} {ad : Addr} (hown : w.ownsRow base e sz (.slice A n cap) n xs) (hs : a.eval s = .slice A n cap) (hx : a.eval x = .slice (some ad) 1 1) (hcs : cs.length = sz) (hnews : ∀ j u, cs[j]? = some u → w.cell? (ad.add j) = some u) (h1 : ∀ u ∈ cs, u.oneCell' = true)
    (hbytes : (n + 1) * bytes ≤ 140737488355328) (hb0 : 0 < bytes) (hbase : base ≤ w.heap.size)
    (h : ∀ A' c' w', w'.ownsRow base e sz (.slice A' (n + 1) c') (n + 1) (xs ++ cs) → Below base w w' → Others [e] w w' →
      ((n < cap ∧ A' = A ∧ c' = cap) ∨ (cap ≤ n ∧ A' = some ⟨w.heap.size, 0, none⟩ ∧ Below w.heap.size w w')) → wpList P ops Q rest (a.put o.dst (.slice A' (n + 1) c')) w') :
    wpList P ops Q (o :: rest) a w := by
  refine wpList_plain hgd fun K hK => ?_
  by_cases hroom : n + 1 ≤ cap
  · obtain ⟨g, rfl⟩ : ∃ g, A = some ⟨g, 0, none⟩ := by
      rcases hown.2 with ⟨he, _⟩ | ⟨g, _, _, he, _⟩
      · injection he with _ _ he3; omega
      · injection he with he1 _ _; exact ⟨g, he1⟩
    obtain ⟨w', hr, h2, h3⟩ := run_append_own_spare (P := P) w base t o.type e i sz ht hi hsize g n cap xs hown ad 1 1 cs (by omega) hnews h1 hroom
    have hb : Below base w w' := (Below.refl base w).grown h3 hbase (fun k hk => by cases hk; exact (hown.lt g rfl).1)
    have ho2 : Others [e] w w' := Others.grown hown (by simpa [Value.ownBlock] using h3) (by simp)
    unfold Oper.wp execOp
    simp only [ho, resolve, invoke, builtin, Sem.run_bind, Sem.run_pure, Result.andThen_ok, List.map_toArray, List.map_cons, List.map_nil, hs, hx, hr]
    exact hK _ _ (h _ _ w' h2 hb ho2 (.inl ⟨by omega, rfl, rfl⟩))
  · have h63 : n + 1 ≤ maxLen := by have := Nat.le_mul_of_pos_right (n + 1) hb0; simp only [maxLen]; omega
    obtain ⟨c', w', hr, h2, h3⟩ := run_append_full (P := P) w base t o.type e i z sz bytes ht hi hz hsize hby hzs hsz _ n cap A rfl xs hown ad 1 1 cs (by omega) hnews h63 hbytes hbase (by omega)
    have hb : Below w.heap.size w w' := (Below.refl _ w).grown h3 (Nat.le_refl _) (fun k hk => by cases hk)
    unfold Oper.wp execOp
    simp only [ho, resolve, invoke, builtin, Sem.run_bind, Sem.run_pure, Result.andThen_ok, List.map_toArray, List.map_cons, List.map_nil, hs, hx, hr]
    exact hK _ _ (h _ _ w' h2 (hb.mono hbase) (Others.of_below hb) (.inr ⟨by omega, rfl, hb⟩))
end
end Go.Proofs.YthmeonimianoeaaDoor
