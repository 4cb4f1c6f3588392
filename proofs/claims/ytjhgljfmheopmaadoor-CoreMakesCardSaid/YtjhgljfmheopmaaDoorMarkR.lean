/- An append of one node onto a row of nodes within a region that draws its order: what the other operations' values keep. No condition. -/
import Derived.Test.YtjhgljfmheopmaaDoorAppSep
import Derived.Test.YtjhgljfmheopmaaDoorCoreV
import Derived.Test.YtjhgljfmheopmaaDoorRelT
set_option linter.unusedVariables false
set_option linter.unusedSimpArgs false
namespace Go.Proofs.YtjhgljfmheopmaaDoor
open Go.RowKit

/-- Nothing below B is changed; from B on, rows of nodes may get these cells from place p on. -/
def MarkR (B p : Nat) (mk : List Value) (x x' : World) : Prop :=
  Below B x x' ∧ ∀ (k : Nat) (cur : Array Value) (t : TypeId) (fr : Nat × Nat), x.heap[k]? = some (Obj.cells cur t fr) → ∃ cur' : Array Value, x'.heap[k]? = some (Obj.cells cur' t fr) ∧ cur'.size = cur.size ∧ ∀ j, cur'[j]? = cur[j]? ∨ (t = 44 ∧ p ≤ j ∧ ∃ u, mk[j - p]? = some u ∧ cur'[j]? = some u)
theorem MarkR.refl (B p : Nat) (mk : List Value) (x : World) : MarkR B p mk x x := ⟨Below.refl _ _, fun k cur t fr h => ⟨cur, h, rfl, fun j => .inl rfl⟩⟩
theorem MarkR.trans {B p : Nat} {mk : List Value} {x y z : World} (h : MarkR B p mk x y) (h' : MarkR B p mk y z) : MarkR B p mk x z := by
  refine ⟨h.1.trans h'.1, fun k cur t fr hk => ?_⟩
  obtain ⟨c1, h1, h2, h3⟩ := h.2 k cur t fr hk
  obtain ⟨c2, h4, h5, h6⟩ := h'.2 k c1 t fr h1
  refine ⟨c2, h4, h5.trans h2, fun j => ?_⟩
  rcases h6 j with h7 | h7
  · rcases h3 j with h8 | ⟨h8, h9, u, h10, h11⟩
    · exact .inl (h7.trans h8)
    · exact .inr ⟨h8, h9, u, h10, h7.trans h11⟩
  · exact .inr h7
theorem MarkR.of_below {B p : Nat} {mk : List Value} {x x' : World} (h : Below x.heap.size x x') (hB : B ≤ x.heap.size) : MarkR B p mk x x' :=
  ⟨h.mono hB, fun k cur t fr hk => ⟨cur, (h.block k (Array.getElem?_eq_some_iff.1 hk).1).trans hk, rfl, fun j => .inl rfl⟩⟩
theorem MarkR.drew (B p : Nat) (mk : List Value) (x : World) : MarkR B p mk x { x with drawn := x.drawn + 1 } := ⟨(Below.refl _ _).drew, fun k cur t fr h => ⟨cur, h, rfl, fun j => .inl rfl⟩⟩
/-- A row of nodes that these cells do not spoil. -/
theorem MarkR.own {B p : Nat} {mk : List Value} {x x' : World} {base n : Nat} {v : Value} {xs : List Value} (h : MarkR B p mk x x') (ho : x.ownsRow base 44 5 v n xs) (hx : ∀ j u, p ≤ j → j < n * 5 → mk[j - p]? = some u → xs[j]? = some u) : x'.ownsRow base 44 5 v n xs := by
  refine ⟨ho.1, ?_⟩
  rcases ho.2 with h0 | ⟨g, cap, cur, he, hb, hg, hnc, hcm, hcs, ht⟩
  · exact .inl h0
  · obtain ⟨cur', h1, h2, h3⟩ := h.2 g cur _ _ hg
    refine .inr ⟨g, cap, cur', he, hb, h1, hnc, hcm, by rw [h2, hcs], ?_⟩
    apply List.ext_getElem?
    intro j
    rw [List.getElem?_take]
    split
    · rename_i hj
      have hxj : xs[j]? = cur[j]? := by rw [← ht, List.getElem?_take, if_pos hj]; simp
      rw [hxj]
      rcases h3 j with h4 | ⟨_, h5, u, h6, h7⟩
      · simpa using h4
      · have := hx j u h5 hj h6
        rw [hxj] at this
        rw [this]
        simpa using h7
    · rename_i hj
      rw [List.getElem?_eq_none (by rw [ho.1]; omega)]
/-- A row of another type. -/
theorem MarkR.own_other {B p : Nat} {mk : List Value} {x x' : World} {base n sz : Nat} {e : TypeId} {v : Value} {xs : List Value} (h : MarkR B p mk x x') (ho : x.ownsRow base e sz v n xs) (he : e ≠ 44) : x'.ownsRow base e sz v n xs := by
  refine ⟨ho.1, ?_⟩
  rcases ho.2 with h0 | ⟨g, cap, cur, h1, hb, hg, hr⟩
  · exact .inl h0
  · obtain ⟨cur', h2, h3, h4⟩ := h.2 g cur _ _ hg
    have : cur' = cur := by
      apply Array.ext_getElem?
      intro j
      rcases h4 j with h5 | ⟨h5, _⟩
      · exact h5
      · exact absurd h5 he
    rw [this] at h2
    exact .inr ⟨g, cap, cur, h1, hb, h2, hr⟩
/-- One node appended. -/
theorem run_append_mark {P : Program} (w : World) (base : Nat) (t ty e : TypeId) (i : TypeInfo) (z : Value) (bytes : Nat) (hE : e = 44) (ht : P.underlying t = some (.slice e)) (hi : P.info? e = some i) (hz : i.zero = some z)
    (hsize : i.size = 5) (hby : i.bytes = bytes) (hzs : z.cells.size = 5)
    (v : Value) (n : Nat) (xs : List Value) (hown : w.ownsRow base e 5 v n xs)
    (a : Addr) (news : List Value) (hl : news.length = 5) (hnews : ∀ j u, news[j]? = some u → w.cell? (a.add j) = some u) (h1 : ∀ u ∈ news, u.oneCell' = true)
    (h63 : n + 1 ≤ maxLen) (hbytes : (n + 1) * bytes ≤ 140737488355328) (hbase : base ≤ w.heap.size) :
    ∃ v' w', (Builtin.append_ #[t, t] ty #[v, .slice (some a) 1 1]).run P w = .ok v' w' ∧ w'.ownsRow base e 5 v' (n + 1) (xs ++ news) ∧ MarkR base (n * 5) news w w' := by
  have hgn : ∀ w', w.grownBy w' none → MarkR base (n * 5) news w w' := fun w' hg =>
    ⟨⟨hg.os, hg.tape, hg.output, hg.size, fun k hk => hg.block k (by omega) (by simp)⟩, fun k cur t fr hk => ⟨cur, (hg.block k (Array.getElem?_eq_some_iff.1 hk).1 (by simp)).trans hk, rfl, fun j => .inl rfl⟩⟩
  rcases hown.2 with ⟨rfl, rfl⟩ | ⟨g, cap, cur, rfl, hbg, hg, hnc, hcm, hcs, htake⟩
  · obtain ⟨v', w', hr, h2, h3, h4⟩ := run_append_own (P := P) w base t ty e i z 5 bytes ht hi hz hsize hby hzs (by decide) _ 0 xs hown a 1 1 news (by rw [hl]) hnews h1 h63 hbytes hbase
    exact ⟨v', w', hr, h2, hgn w' h3⟩
  · by_cases hroom : n + 1 ≤ cap
    · have hfit : n * 5 + news.length ≤ cur.size := by rw [hl, hcs]; omega
      have hr2 := run_append_room (P := P) w t ty e i ht hi g n cap cur hg a 1 1 news (by rw [hl, hsize]) hnews h1 hroom (by rw [hsize]; exact hfit)
      obtain ⟨v', w', hr, h2, h3, h4⟩ := run_append_own (P := P) w base t ty e i z 5 bytes ht hi hz hsize hby hzs (by decide) _ n xs hown a 1 1 news (by rw [hl]) hnews h1 h63 hbytes hbase
      refine ⟨v', w', hr, h2, ?_⟩
      rw [hr] at hr2
      injection hr2 with _ hw
      subst hw
      rw [hsize] at *
      refine ⟨⟨h3.os, h3.tape, h3.output, h3.size, fun k hk => h3.block k (by omega) (by simp [Value.ownBlock]; omega)⟩, fun k cur2 t2 fr hk => ?_⟩
      by_cases hkg : k = g
      · subst hkg
        rw [hg] at hk
        injection hk with hk
        injection hk with hk1 hk2 hk3
        subst hk1 hk2 hk3
        refine ⟨_, setRow_heap w k cur _ e _ hg, ?_, fun j => ?_⟩
        · simp only [List.size_toArray, List.length_append, List.length_take, List.length_drop, Array.length_toList]
          omega
        · simp only [List.getElem?_toArray]
          by_cases hj1 : j < n * 5
          · left
            rw [List.append_assoc, List.getElem?_append_left (by simp only [List.length_take, Array.length_toList]; omega), List.getElem?_take, if_pos hj1]
            simp
          · by_cases hj2 : j < n * 5 + 5
            · right
              refine ⟨hE, by omega, ?_⟩
              obtain ⟨u, hu⟩ : ∃ u, news[j - n * 5]? = some u := ⟨news[j - n * 5]'(by omega), List.getElem?_eq_getElem _⟩
              refine ⟨u, hu, ?_⟩
              rw [List.append_assoc, List.getElem?_append_right (by simp only [List.length_take, Array.length_toList]; omega), List.getElem?_append_left (by simp only [List.length_take, Array.length_toList]; omega)]
              rw [← hu]
              congr 1
              simp only [List.length_take, Array.length_toList]
              omega
            · left
              rw [List.append_assoc, List.getElem?_append_right (by simp only [List.length_take, Array.length_toList]; omega), List.getElem?_append_right (by simp only [List.length_take, Array.length_toList]; omega), List.getElem?_drop]
              simp only [List.length_take, Array.length_toList, Array.getElem?_toList]
              congr 1
              omega
      · refine ⟨cur2, (h3.block k (Array.getElem?_eq_some_iff.1 hk).1 (by simp [Value.ownBlock, hkg])).trans hk, rfl, fun j => .inl rfl⟩
    · have holds : ∀ j u, xs[j]? = some u → w.cell? ((⟨g, 0, none⟩ : Addr).add j) = some u := hown.cells (g := g) rfl
      obtain ⟨v', w', hr, h2, h3⟩ := run_append_arg_grows (P := P) w t ty e i z 5 bytes ht hi hz hsize hby hzs (by decide) ⟨g, 0, none⟩ n cap xs hown.1 holds a 1 1 news (by rw [hl]) hnews (by omega) h63 hbytes
      exact ⟨v', w', hr, own_mono h2 hbase, hgn w' h3⟩
/-- .. as one operation of a region. -/
theorem oper_append {P : Program} {o : Oper} {a : Act} {w w' : World} {K : Act → World → Prop} {Q : Exit → Act → World → Prop} {v v' : Value} {m c : Nat} {A : Option Addr} (s x : Operand) (t : TypeId) (ho : o.op = .call { callee := .builtin .append, args := #[s, x], argTypes := #[t, t] })
    (hs : a.eval s = v) (hx : a.eval x = .slice A m c) (hr : (Builtin.append_ #[t, t] o.type #[v, .slice A m c]).run P w = .ok v' w') (hK : K (a.put o.dst v') w') : o.wp P a w K Q := by
  unfold Oper.wp
  simp [execOp, ho, resolve, invoke, builtin, hs, hx, hr, Result.andThen]
  exact hK
end Go.Proofs.YtjhgljfmheopmaaDoor
