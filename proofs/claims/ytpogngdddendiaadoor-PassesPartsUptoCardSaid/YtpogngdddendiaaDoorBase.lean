/- The words of memory that all walks of this claim use: a slice that reads as a list, kept over later worlds. No condition. -/
import Derived.Below
import Derived.Laws.OwnMore
import Derived.Laws.Rows
import Derived.Deep.Draws
import Derived.WalkKit
set_option linter.unusedVariables false
set_option linter.unusedSimpArgs false
namespace Go.Proofs.YtpogngdddendiaaDoor
open Go.RowKit

/-- It returns v and has changed nothing that was there. -/
def Ret (w : World) (v : Value) (e : Ending) (w' : World) : Prop := e = .returned v ∧ Below w.heap.size w w'

/-- It returns a value of which P holds in the world behind, and has changed nothing that was there. -/
def RetIn (w : World) (P : Value → World → Prop) (e : Ending) (w' : World) : Prop := ∃ v, e = .returned v ∧ P v w' ∧ Below w.heap.size w w'

section
variable {α : Type} {w w' : World} {sz B : Nat} {enc : α → List Value} {A : Option Addr} {l : List α}

/-- The elements of l lie one behind the other from address A on, each as the cells that enc says, sz cells an element. -/
def RdL (w : World) (sz : Nat) (enc : α → List Value) (A : Option Addr) (l : List α) : Prop :=
  ∀ k (hk : k < l.length), ∃ b o, A = some ⟨b, o, none⟩ ∧ b < w.heap.size ∧ ∀ j u, (enc l[k])[j]? = some u → w.cell? ⟨b, o + k * sz + j, none⟩ = some u

theorem RdL.nil (w : World) (sz : Nat) (enc : α → List Value) (A : Option Addr) : RdL w sz enc A [] := fun _ h => absurd h (Nat.not_lt_zero _)

theorem RdL.keep (h : RdL w sz enc A l) (hs : w.heap.size ≤ w'.heap.size) (hk : ∀ p : Addr, p.block < w.heap.size → w'.cell? p = w.cell? p) : RdL w' sz enc A l := by
  intro k hkl
  obtain ⟨b, o, hA, hb, hc⟩ := h k hkl
  exact ⟨b, o, hA, by omega, fun j u hu => (hk _ hb).trans (hc j u hu)⟩

theorem RdL.below (h : RdL w sz enc A l) (hb : Below w.heap.size w w') : RdL w' sz enc A l := h.keep hb.size fun _ hp => hb.cell hp
theorem RdL.drew (h : RdL w sz enc A l) : RdL w.drew sz enc A l := h
theorem RdL.alloc (h : RdL w sz enc A l) (o : Obj) : RdL (w.alloc o) sz enc A l :=
  h.below ((Below.refl _ _).alloc (Nat.le_refl _) o)

/-- Two cells of the list's k-th element. -/
theorem RdL.at_ {b o : Nat} (h : RdL w sz enc (some ⟨b, o, none⟩) l) {k : Nat} (hk : k < l.length) : b < w.heap.size ∧ ∀ j u, (enc l[k])[j]? = some u → w.cell? ⟨b, o + k * sz + j, none⟩ = some u := by
  obtain ⟨b', o', hA, hb, hc⟩ := h k hk
  simp only [Option.some.injEq, Addr.mk.injEq, and_true] at hA
  obtain ⟨rfl, rfl⟩ := hA
  exact ⟨hb, hc⟩

/-- Where it is not empty the address is known. -/
theorem RdL.addr (h : RdL w sz enc A l) (hl : 0 < l.length) : ∃ b o, A = some ⟨b, o, none⟩ ∧ b < w.heap.size :=
  let ⟨b, o, hA, hb, _⟩ := h 0 hl
  ⟨b, o, hA, hb⟩

/-- A cut behind: s[:n]. -/
theorem RdL.take (h : RdL w sz enc A l) (n : Nat) : RdL w sz enc A (l.take n) := by
  intro k hk
  rw [List.length_take] at hk
  obtain ⟨b, o, hA, hb, hc⟩ := h k (by omega)
  exact ⟨b, o, hA, hb, fun j u hu => hc j u (by rw [← hu]; simp)⟩

/-- A cut ahead: s[n:], as the model lays its address. -/
theorem RdL.drop (h : RdL w sz enc A l) (n : Nat) {A' : Option Addr} (hA' : ∀ b o, A = some ⟨b, o, none⟩ → n < l.length → A' = some ⟨b, o + n * sz, none⟩) : RdL w sz enc A' (l.drop n) := by
  intro k hk
  rw [List.length_drop] at hk
  obtain ⟨b, o, hA, hb, hc⟩ := h (n + k) (by omega)
  refine ⟨b, o + n * sz, hA' b o hA (by omega), hb, fun j u hu => ?_⟩
  rw [show o + n * sz + k * sz + j = o + (n + k) * sz + j by rw [Nat.add_mul]; omega]
  exact hc j u (by rw [← hu]; simp [List.getElem_drop])

/-- The cells as one flat list. -/
theorem flat_get (hsz : ∀ x, (enc x).length = sz) : ∀ (l : List α) (j : Nat) (u : Value), (l.flatMap enc)[j]? = some u → ∃ k, ∃ hk : k < l.length, ∃ i, (enc l[k])[i]? = some u ∧ j = k * sz + i
  | [], j, u, h => by simp at h
  | x :: l, j, u, h => by
    rw [List.flatMap_cons, List.getElem?_append] at h
    split at h
    · exact ⟨0, by simp, j, h, by simp⟩
    · rename_i hj
      rw [hsz] at h hj
      obtain ⟨k, hk, i, hi, hji⟩ := flat_get hsz l _ u h
      exact ⟨k + 1, by simpa using hk, i, by simpa using hi, by rw [Nat.add_mul]; omega⟩

theorem flat_at (hsz : ∀ x, (enc x).length = sz) : ∀ (l : List α) (k : Nat) (hk : k < l.length) (i : Nat) (u : Value), (enc l[k])[i]? = some u → (l.flatMap enc)[k * sz + i]? = some u
  | x :: l, 0, _, i, u, h => by
    have hi : i < (enc x).length := (List.getElem?_eq_some_iff.1 h).1
    rw [List.flatMap_cons, List.getElem?_append_left (by simpa using hi)]
    simpa using h
  | x :: l, k + 1, hk, i, u, h => by
    rw [List.flatMap_cons, List.getElem?_append_right (by rw [hsz, Nat.add_mul]; omega), hsz]
    have := flat_at hsz l k (by simpa using hk) i u (by simpa using h)
    rw [show (k + 1) * sz + i - sz = k * sz + i by rw [Nat.add_mul]; omega]
    exact this

theorem flat_len (hsz : ∀ x, (enc x).length = sz) (l : List α) : (l.flatMap enc).length = l.length * sz := by
  induction l with
  | nil => simp
  | cons x l ih => simp [List.flatMap_cons, ih, hsz, Nat.add_mul, Nat.add_comm]

/-- What append asks of its source. -/
theorem RdL.news {b o : Nat} (hsz : ∀ x, (enc x).length = sz) (h : RdL w sz enc (some ⟨b, o, none⟩) l) : ∀ j u, (l.flatMap enc)[j]? = some u → w.cell? ((⟨b, o, none⟩ : Addr).add j) = some u := by
  intro j u hu
  obtain ⟨k, hk, i, hi, rfl⟩ := flat_get hsz l j u hu
  rw [Addr.add_lit, ← Nat.add_assoc]
  exact (h.at_ hk).2 i u hi

/-- A row that the call owns reads as a list. -/
theorem RdL.of_own {base : Nat} {e : TypeId} {v : Value} {n : Nat} (hsz : ∀ x, (enc x).length = sz) (h : w.ownsRow base e sz v n (l.flatMap enc)) (hn : n = l.length) :
    ∃ A c, v = .slice A n c ∧ n ≤ c ∧ c ≤ maxLen ∧ RdL w sz enc A l ∧ (A = none → c = 0) := by
  subst hn
  rcases h.2 with ⟨rfl, h0⟩ | ⟨g, cap, cur, rfl, hb, hg, hc, hm, hcs, ht⟩
  · have : l = [] := List.eq_nil_of_length_eq_zero h0
    subst this
    exact ⟨none, 0, rfl, Nat.le_refl _, Nat.zero_le _, RdL.nil _ _ _ _, fun _ => rfl⟩
  · refine ⟨some ⟨g, 0, none⟩, cap, rfl, hc, hm, fun k hk => ⟨g, 0, rfl, (Array.getElem?_eq_some_iff.1 hg).1, fun j u hu => ?_⟩, fun h => by cases h⟩
    have hf := flat_at hsz l k hk j u hu
    have hj : j < sz := by rw [← hsz l[k]]; exact (List.getElem?_eq_some_iff.1 hu).1
    rw [Nat.zero_add, h.cellAt _ (by have := Nat.mul_le_mul_right sz (show k + 1 ≤ l.length from hk); rw [Nat.add_mul] at this; omega)]
    exact hf
end

/-- Where a slice value that the call owns lies: nil, or at the head of a block of its own. -/
theorem own_form {w : World} {base : Nat} {e : TypeId} {sz n : Nat} {v : Value} {xs : List Value} (h : w.ownsRow base e sz v n xs) :
    ∃ A c, v = .slice A n c ∧ n ≤ c ∧ c ≤ maxLen ∧ (∀ a, A = some a → base ≤ a.block ∧ a.block < w.heap.size ∧ a.off = 0 ∧ a.spot = none) ∧ (A = none → n = 0 ∧ c = 0) := by
  rcases h.2 with ⟨rfl, rfl⟩ | ⟨g, cap, cur, rfl, hb, hg, hc, hm, _, _⟩
  · exact ⟨none, 0, rfl, Nat.le_refl _, Nat.zero_le _, fun a h => (by cases h), fun _ => ⟨rfl, rfl⟩⟩
  · refine ⟨some ⟨g, 0, none⟩, cap, rfl, hc, hm, fun a h => ?_, fun h => by cases h⟩
    cases h
    exact ⟨hb, (Array.getElem?_eq_some_iff.1 hg).1, rfl, rfl⟩

theorem grown_below {w w' : World} {row : Option Nat} {B : Nat} (hg : w.grownBy w' row) (hB : B ≤ w.heap.size) (hr : ∀ k, row = some k → B ≤ k) : Below B w w' :=
  (Below.refl B w).grown hg hB hr

/-- What is owned from base on stays owned where only blocks below it stand still and the row itself does. -/
theorem own_below {w w' : World} {base : Nat} {e : TypeId} {sz n : Nat} {v : Value} {xs : List Value} (h : w.ownsRow base e sz v n xs) (hb : Below w.heap.size w w') : w'.ownsRow base e sz v n xs := by
  refine ⟨h.1, ?_⟩
  rcases h.2 with hn | ⟨g, cap, cur, rfl, hb', hg, rest⟩
  · exact .inl hn
  · exact .inr ⟨g, cap, cur, rfl, hb', (hb.block g (Array.getElem?_eq_some_iff.1 hg).1).trans hg, rest⟩

theorem own_mono {w : World} {base base' : Nat} {e : TypeId} {sz n : Nat} {v : Value} {xs : List Value} (h : w.ownsRow base e sz v n xs) (hb : base' ≤ base) : w.ownsRow base' e sz v n xs := by
  refine ⟨h.1, ?_⟩
  rcases h.2 with hn | ⟨g, cap, cur, rfl, hb', rest⟩
  · exact .inl hn
  · exact .inr ⟨g, cap, cur, rfl, Nat.le_trans hb hb', rest⟩

/-- All rows of cells whose element type is none of these stand as they stood. -/
def Others (ts : List TypeId) (w w' : World) : Prop := ∀ (k : Nat) (cs : Array Value) (T : TypeId) (fr : Nat × Nat), w.heap[k]? = some (Obj.cells cs T fr) → T ∉ ts → w'.heap[k]? = some (Obj.cells cs T fr)
theorem Others.refl (ts : List TypeId) (w : World) : Others ts w w := fun _ _ _ _ h _ => h
theorem Others.trans {ts : List TypeId} {a b c : World} (h : Others ts a b) (h' : Others ts b c) : Others ts a c := fun k cs T fr hk ht => h' k cs T fr (h k cs T fr hk ht) ht
theorem Others.mono {ts ts' : List TypeId} {a b : World} (h : Others ts a b) (hs : ∀ t ∈ ts, t ∈ ts') : Others ts' a b := fun k cs T fr hk ht => h k cs T fr hk (fun hm => ht (hs _ hm))
theorem Others.of_below {ts : List TypeId} {w w' : World} (h : Below w.heap.size w w') : Others ts w w' := fun k _ _ _ hk _ => (h.block k (Array.getElem?_eq_some_iff.1 hk).1).trans hk
theorem Others.setCell {ts : List TypeId} {w : World} {p : Addr} {cs : Array Value} {t : TypeId} {fr : Nat × Nat} (hp : w.heap[p.block]? = some (.cells cs t fr)) (ht : t ∈ ts) (u : Value) : Others ts w (w.setCell p u) := by
  intro k cs' T fr' hk hT
  rw [Below.heap_setCell _ _ _ _ (fun e => ?_)]
  · exact hk
  · subst e
    rw [hp] at hk
    injection hk with hk
    injection hk with _ h2
    exact hT (h2 ▸ ht)
theorem Others.grown {ts : List TypeId} {w w' : World} {base : Nat} {e : TypeId} {sz n : Nat} {v : Value} {xs : List Value} (hown : w.ownsRow base e sz v n xs) (hg : w.grownBy w' v.ownBlock) (ht : e ∈ ts) : Others ts w w' := by
  intro k cs T fr hk hT
  rw [hg.block k (Array.getElem?_eq_some_iff.1 hk).1 (fun h => ?_)]
  · exact hk
  · rcases hown.2 with ⟨rfl, _⟩ | ⟨g, cap, cur, rfl, _, hgg, _⟩
    · simp [Value.ownBlock] at h
    · simp only [Value.ownBlock, Option.some.injEq] at h
      subst h
      rw [hgg] at hk
      injection hk with hk
      injection hk with _ h2
      exact hT (h2 ▸ ht)
theorem own_others {ts : List TypeId} {w w' : World} {base : Nat} {e : TypeId} {sz n : Nat} {v : Value} {xs : List Value} (h : w.ownsRow base e sz v n xs) (ho : Others ts w w') (ht : e ∉ ts) : w'.ownsRow base e sz v n xs := by
  refine ⟨h.1, ?_⟩
  rcases h.2 with hn | ⟨g, cap, cur, rfl, hb', hg, rest⟩
  · exact .inl hn
  · exact .inr ⟨g, cap, cur, rfl, hb', ho g cur e _ hg ht, rest⟩

theorem cell_keep {w w' : World} {p : Addr} {v : Value} (h : Below w.heap.size w w') (hc : w.cell? p = some v) : w'.cell? p = some v := (h.cell (World.block_lt_of_cell? _ _ hc)).trans hc

/-- A block known whole. -/
def Blk (w : World) (g : Nat) (t : TypeId) (cs : Array Value) : Prop := w.heap[g]? = some (.cells cs t (0, 0))
theorem Blk.new (w : World) (t : TypeId) (cs : Array Value) : Blk (w.alloc (.cells cs t)) w.heap.size t cs := heap_alloc_new w _
theorem Blk.cell {w : World} {g : Nat} {t : TypeId} {cs : Array Value} (h : Blk w g t cs) (i : Nat) : w.cell? ⟨g, i, none⟩ = cs[i]? := cell_of_row w g i cs t (0, 0) h
theorem Blk.lt {w : World} {g : Nat} {t : TypeId} {cs : Array Value} (h : Blk w g t cs) : g < w.heap.size := (Array.getElem?_eq_some_iff.1 h).1
theorem Blk.below {w w' : World} {g : Nat} {t : TypeId} {cs : Array Value} (h : Blk w g t cs) (hb : Below w.heap.size w w') : Blk w' g t cs := (hb.block g h.lt).trans h
theorem Blk.others {w w' : World} {g : Nat} {t : TypeId} {cs : Array Value} {ts : List TypeId} (h : Blk w g t cs) (ho : Others ts w w') (ht : t ∉ ts) : Blk w' g t cs := ho g cs t _ h ht
theorem Blk.frozen {w : World} {g : Nat} {t : TypeId} {cs : Array Value} (h : Blk w g t cs) (i : Nat) : w.frozen? ⟨g, i, none⟩ = false := by
  unfold Blk at h; simp [World.frozen?, h]
theorem Blk.set {w : World} {g : Nat} {t : TypeId} {cs : Array Value} (h : Blk w g t cs) (i : Nat) (u : Value) : Blk (w.setCell ⟨g, i, none⟩ u) g t (cs.setIfInBounds i u) := by
  unfold Blk at h ⊢; simp [World.setCell, Array.getElem?_modify, h]

theorem bytes_drop (s : ByteArray) (k : Nat) (h : k < s.size) : s.data.toList.drop k = s[k] :: s.data.toList.drop (k + 1) := by
  rw [List.drop_eq_getElem_cons (by simpa using h)]
  rfl
theorem bytes_end (s : ByteArray) : s.data.toList.drop s.size = [] := List.drop_of_length_le (by simp)
theorem u8_ne {c : UInt8} {d : Nat} (h : c.toNat ≠ d) : ((c.toNat : Int) != (d : Int)) = true := by rw [bne_iff_ne]; omega

section
variable {P : Program} {ops : Array Oper} {Q : Exit → Act → World → Prop} {a : Act} {w : World} {rest : List Oper} {o : Oper}

/-- append of one element onto a slice that the call owns: the walk goes on at whatever value and world come of it. -/
theorem wpList_push (hgd : o.guard = none) (s x : Operand) (t : TypeId) (ho : o.op = .call { callee := .builtin .append, args := #[s, x], argTypes := #[t, t] })
    {e : TypeId} {i : TypeInfo} {z : Value} {sz bytes : Nat} (ht : P.underlying t = some (.slice e)) (hi : P.info? e = some i) (hz : i.zero = some z) (hsize : i.size = sz) (hby : i.bytes = bytes) (hzs : z.cells.size = sz) (hsz : 0 < sz)
    {base n : Nat} {v : Value} {xs : List Value} {cs : Array Value} (hown : w.ownsRow base e sz v n xs) (hs : a.eval s = v) (hx : a.eval x = .slice (some ⟨w.heap.size, 0, none⟩) 1 1) (hcs : cs.size = sz) (h1 : ∀ u ∈ cs.toList, u.oneCell' = true)
    (hbytes : (n + 1) * bytes ≤ 140737488355328) (hb0 : 0 < bytes) (hbase : base ≤ w.heap.size)
    (h : ∀ A' c' w', w'.ownsRow base e sz (.slice A' (n + 1) c') (n + 1) (xs ++ cs.toList) → Below base w w' → Others [e] w w' → wpList P ops Q rest (a.put o.dst (.slice A' (n + 1) c')) w') :
    wpList P ops Q (o :: rest) a (w.alloc (.cells cs e)) := by
  refine wpList_append_own _ hgd s x t ho base e i z sz bytes ht hi hz hsize hby hzs hsz v n xs hs (hown.alloc _) ⟨w.heap.size, 0, none⟩ 1 1 cs.toList hx (by simp [hcs]) ?_ h1 ?_ hbytes (by simp; omega) ?_
  · intro j u hu
    rw [Addr.add_lit, Nat.zero_add, cell_of_row _ _ j cs e (0, 0) (heap_alloc_new w _)]
    simpa using hu
  · have := Nat.le_mul_of_pos_right (n + 1) hb0
    simp only [maxLen]; omega
  · intro v' w' hown' hgrow _
    obtain ⟨A', c', rfl, _⟩ := own_form hown'
    exact h A' c' w' hown' (((Below.refl base w).alloc hbase _).grown hgrow (by simp; omega) (fun k hk => (hown.lt k hk).1)) ((Others.of_below ((Below.refl _ _).alloc (Nat.le_refl _) _)).trans (Others.grown (hown.alloc _) hgrow (by simp)))

/-- append of a whole slice onto a slice that the call owns. -/
theorem wpList_pushMem {α : Type} {enc : α → List Value} (hgd : o.guard = none) (s x : Operand) (t : TypeId) (ho : o.op = .call { callee := .builtin .append, args := #[s, x], argTypes := #[t, t] })
    {e : TypeId} {i : TypeInfo} {z : Value} {sz bytes : Nat} (ht : P.underlying t = some (.slice e)) (hi : P.info? e = some i) (hz : i.zero = some z) (hsize : i.size = sz) (hby : i.bytes = bytes) (hzs : z.cells.size = sz) (hsz : 0 < sz)
    {base n m c : Nat} {v : Value} {xs : List Value} {A : Option Addr} {l : List α} (hown : w.ownsRow base e sz v n xs) (hs : a.eval s = v) (hx : a.eval x = .slice A m c) (hm : m = l.length) (hl : RdL w sz enc A l) (hA : A = none → c = 0) {σ : Prop} (hsp : σ) (henc : ∀ y, (enc y).length = sz) (h1 : ∀ y ∈ l, ∀ u ∈ enc y, u.oneCell' = true)
    (hbytes : (n + m) * bytes ≤ 140737488355328) (hb0 : 0 < bytes) (hbase : base ≤ w.heap.size)
    (h : ∀ A' c' w', w'.ownsRow base e sz (.slice A' (n + m) c') (n + m) (xs ++ l.flatMap enc) → Below base w w' → Others [e] w w' → wpList P ops Q rest (a.put o.dst (.slice A' (n + m) c')) w') :
    wpList P ops Q (o :: rest) a w := by
  subst hm
  cases A with
  | none =>
    obtain rfl := hA rfl
    have hl0 : l = [] := by
      cases l with
      | nil => rfl
      | cons y l =>
        obtain ⟨b, o, hA, _⟩ := hl 0 (by simp)
        cases hA
    subst hl0
    refine wpList_plain hgd fun K hK => ?_
    have hrun := run_append_owned_none (P := P) (w := w) base t o.type e i sz ht hi v n xs hown
    unfold Oper.wp
    simp only [List.length_nil] at hx
    simp [execOp, ho, resolve, invoke, builtin, hs, hx, hrun, Result.andThen]
    obtain ⟨A', c', rfl, _⟩ := own_form hown
    exact hK _ _ (h A' c' w (by simpa using hown) (Below.refl _ _) (Others.refl _ _))
  | some ad =>
    have hnews : ∀ j u, (l.flatMap enc)[j]? = some u → w.cell? (ad.add j) = some u := by
      cases l with
      | nil => intro j u hu; simp at hu
      | cons y l =>
        obtain ⟨b, o, hA', _⟩ := hl 0 (by simp)
        injection hA' with hA'
        subst hA'
        exact hl.news henc
    refine wpList_append_own _ hgd s x t ho base e i z sz bytes ht hi hz hsize hby hzs hsz v n xs hs hown ad l.length c (l.flatMap enc) hx (flat_len henc l) hnews ?_ ?_ hbytes hbase ?_
    · intro u hu
      obtain ⟨y, hm, hy⟩ := List.mem_flatMap.1 hu
      exact h1 y hm u hy
    · have := Nat.le_mul_of_pos_right (n + l.length) hb0
      simp only [maxLen]; omega
    · intro v' w' hown' hgrow _
      obtain ⟨A', c', rfl, _⟩ := own_form hown'
      exact h A' c' w' hown' ((Below.refl base w).grown hgrow hbase fun k hk => (hown.lt k hk).1) (Others.grown hown hgrow (by simp))
/-- .. where every element's cells are single. -/
theorem wpList_pushAll {α : Type} {enc : α → List Value} (hgd : o.guard = none) (s x : Operand) (t : TypeId) (ho : o.op = .call { callee := .builtin .append, args := #[s, x], argTypes := #[t, t] })
    {e : TypeId} {i : TypeInfo} {z : Value} {sz bytes : Nat} (ht : P.underlying t = some (.slice e)) (hi : P.info? e = some i) (hz : i.zero = some z) (hsize : i.size = sz) (hby : i.bytes = bytes) (hzs : z.cells.size = sz) (hsz : 0 < sz)
    {base n m c : Nat} {v : Value} {xs : List Value} {A : Option Addr} {l : List α} (hown : w.ownsRow base e sz v n xs) (hs : a.eval s = v) (hx : a.eval x = .slice A m c) (hm : m = l.length) (hl : RdL w sz enc A l) (hA : A = none → c = 0) {σ : Prop} (hsp : σ) (henc : ∀ y, (enc y).length = sz) (h1 : ∀ y, ∀ u ∈ enc y, u.oneCell' = true)
    (hbytes : (n + m) * bytes ≤ 140737488355328) (hb0 : 0 < bytes) (hbase : base ≤ w.heap.size)
    (h : ∀ A' c' w', w'.ownsRow base e sz (.slice A' (n + m) c') (n + m) (xs ++ l.flatMap enc) → Below base w w' → Others [e] w w' → wpList P ops Q rest (a.put o.dst (.slice A' (n + m) c')) w') :
    wpList P ops Q (o :: rest) a w :=
  wpList_pushMem hgd s x t ho ht hi hz hsize hby hzs hsz hown hs hx hm hl hA hsp henc (fun y _ => h1 y) hbytes hb0 hbase h
end
end Go.Proofs.YtpogngdddendiaaDoor
