/- Memory where one block is a reader that moves: all else stands. Rows of parts, of words, of commands. No condition. -/
import Derived.Test.YtlhpflilpdceiaaDoorSeeB
import Derived.Test.YtlhpflilpdceiaaDoorScanA
import Derived.Test.YtlhpflilpdceiaaDoorLater
import Derived.Test.YtlhpflilpdceiaaDoorRel
set_option linter.unusedVariables false
set_option linter.unusedSimpArgs false
namespace Go.Proofs.YtlhpflilpdceiaaDoor
open Go.RowKit

/-- All blocks that were there, but one, stand as they stood. -/
structure But (B : Nat) (w w' : World) : Prop where
  os : w'.os = w.os
  tape : w'.tape = w.tape
  output : w'.output = w.output
  size : w.heap.size ≤ w'.heap.size
  block : ∀ k, k < w.heap.size → k ≠ B → w'.heap[k]? = w.heap[k]?
theorem But.refl (B : Nat) (w : World) : But B w w := ⟨rfl, rfl, rfl, Nat.le_refl _, fun _ _ _ => rfl⟩
theorem But.trans {B : Nat} {a b c : World} (h : But B a b) (k : But B b c) : But B a c :=
  ⟨k.os.trans h.os, k.tape.trans h.tape, k.output.trans h.output, Nat.le_trans h.size k.size, fun i hi hn => (k.block i (Nat.lt_of_lt_of_le hi h.size) hn).trans (h.block i hi hn)⟩
theorem But.of {B : Nat} {w w' : World} (h : Below w.heap.size w w') : But B w w' := ⟨h.os, h.tape, h.output, h.size, fun k hk _ => h.block k hk⟩
/-- From a later base on. -/
theorem But.of2 {B : Nat} {w0 w w' : World} (h : But B w0 w) (h2 : Below w0.heap.size w w') : But B w0 w' :=
  ⟨h2.os.trans h.os, h2.tape.trans h.tape, h2.output.trans h.output, Nat.le_trans h.size h2.size, fun k hk hn => (h2.block k hk).trans (h.block k hk hn)⟩
theorem But.set {B : Nat} (w : World) (i : Nat) (u : Value) : But B w (w.setCell ⟨B, i, none⟩ u) :=
  ⟨rfl, rfl, rfl, by simp [World.setCell], fun k hk hn => Below.heap_setCell _ _ _ _ hn⟩
theorem But.below {B n : Nat} {w w' : World} (h : But B w w') (hn : n ≤ B) (hs : n ≤ w.heap.size) : Below n w w' :=
  ⟨h.os, h.tape, h.output, h.size, fun k hk => h.block k (by omega) (by omega)⟩
theorem But.cell {B : Nat} {w w' : World} {p : Addr} {v : Value} (h : But B w w') (hc : w.cell? p = some v) (hp : p.block ≠ B) : w'.cell? p = some v :=
  (World.cell?_of_block (w := w) (h.block p.block (World.block_lt_of_cell? _ _ hc) hp)).trans hc
theorem But.blk {B g : Nat} {w w' : World} {t : TypeId} {cs : Array Value} (h : But B w w') (hg : Blk w g t cs) (hne : g ≠ B) : Blk w' g t cs := (h.block g hg.lt hne).trans hg
theorem Blk.apart {w : World} {g k : Nat} {t u : TypeId} {cs cu : Array Value} (h : Blk w g t cs) (h' : Blk w k u cu) (hn : t ≠ u) : g ≠ k := fun e => by
  subst e
  unfold Blk at h h'
  rw [h] at h'
  injection h' with h'
  injection h' with _ h2
  exact hn h2
theorem own_but {B : Nat} {w w' : World} {base : Nat} {e : TypeId} {sz n : Nat} {v : Value} {xs : List Value} {t : TypeId} {cs : Array Value} (h : w.ownsRow base e sz v n xs) (hb : But B w w') (hB : Blk w B t cs) (hn : e ≠ t) : w'.ownsRow base e sz v n xs := by
  refine ⟨h.1, ?_⟩
  rcases h.2 with hn' | ⟨g, cap, cur, rfl, hb', hg, rest⟩
  · exact .inl hn'
  · exact .inr ⟨g, cap, cur, rfl, hb', (hb.block g (Array.getElem?_eq_some_iff.1 hg).1 (Blk.apart hg hB hn)).trans hg, rest⟩

/- the cells of parts, words, commands -/
def cpc (p : CPart) : List Value := [.int .i64 p.kind, .int .i64 p.pos, .int .i64 p.n, .string ⟨p.s.toArray⟩]
theorem cpc_len (p : CPart) : (cpc p).length = 4 := rfl
theorem cpc_one (p : CPart) : ∀ u ∈ cpc p, u.oneCell' = true := fun u h => by
  simp only [cpc, List.mem_cons, List.not_mem_nil, or_false] at h
  rcases h with rfl | rfl | rfl | rfl <;> rfl
def wdc (p : CWord × Value) : List Value := [.int .i64 p.1.pos, .bool p.1.braced, p.2]
theorem wdc_len (p : CWord × Value) : (wdc p).length = 3 := rfl
def cmc (p : CCmd × Value) : List Value := [.int .i64 p.1.pos, p.2]
theorem cmc_len (p : CCmd × Value) : (cmc p).length = 2 := rfl

section
variable (tp tw tc : TypeId)
/-- A row of parts of the call's own. -/
def OwnP (w : World) (B : Nat) (v : Value) (l : List CPart) : Prop := w.ownsRow B tp 4 v l.length (l.flatMap cpc)
def OwnW (w : World) (B : Nat) (v : Value) (l : List CWord) : Prop := ∃ vs : List (CWord × Value), vs.map Prod.fst = l ∧ w.ownsRow B tw 3 v l.length (vs.flatMap wdc) ∧ ∀ p ∈ vs, OwnP tp w B p.2 p.1.parts
def OwnC (w : World) (B : Nat) (v : Value) (l : List CCmd) : Prop := ∃ vs : List (CCmd × Value), vs.map Prod.fst = l ∧ w.ownsRow B tc 2 v l.length (vs.flatMap cmc) ∧ ∀ p ∈ vs, OwnW tp tw w B p.2 p.1.words
end
section
variable {tp tw tc : TypeId} {w w' : World} {B : Nat} {v : Value}
theorem OwnP.nil (w : World) (B : Nat) : OwnP tp w B (.slice none 0 0) [] := World.ownsRow_nil _ _ _ _
theorem OwnW.nil (w : World) (B : Nat) : OwnW tp tw w B (.slice none 0 0) [] := ⟨[], rfl, World.ownsRow_nil _ _ _ _, fun p h => by cases h⟩
theorem OwnC.nil (w : World) (B : Nat) : OwnC tp tw tc w B (.slice none 0 0) [] := ⟨[], rfl, World.ownsRow_nil _ _ _ _, fun p h => by cases h⟩
theorem OwnP.below {l : List CPart} (h : OwnP tp w B v l) (hb : Below w.heap.size w w') : OwnP tp w' B v l := own_below h hb
theorem OwnW.below {l : List CWord} (h : OwnW tp tw w B v l) (hb : Below w.heap.size w w') : OwnW tp tw w' B v l :=
  let ⟨vs, h1, h2, h3⟩ := h
  ⟨vs, h1, own_below h2 hb, fun p hp => (h3 p hp).below hb⟩
theorem OwnC.below {l : List CCmd} (h : OwnC tp tw tc w B v l) (hb : Below w.heap.size w w') : OwnC tp tw tc w' B v l :=
  let ⟨vs, h1, h2, h3⟩ := h
  ⟨vs, h1, own_below h2 hb, fun p hp => (h3 p hp).below hb⟩
theorem OwnP.mono {B' : Nat} {l : List CPart} (h : OwnP tp w B v l) (hb : B' ≤ B) : OwnP tp w B' v l := own_mono h hb
theorem OwnW.mono {B' : Nat} {l : List CWord} (h : OwnW tp tw w B v l) (hb : B' ≤ B) : OwnW tp tw w B' v l :=
  let ⟨vs, h1, h2, h3⟩ := h
  ⟨vs, h1, own_mono h2 hb, fun p hp => (h3 p hp).mono hb⟩
theorem OwnC.mono {B' : Nat} {l : List CCmd} (h : OwnC tp tw tc w B v l) (hb : B' ≤ B) : OwnC tp tw tc w B' v l :=
  let ⟨vs, h1, h2, h3⟩ := h
  ⟨vs, h1, own_mono h2 hb, fun p hp => (h3 p hp).mono hb⟩
theorem OwnP.others {ts : List TypeId} {l : List CPart} (h : OwnP tp w B v l) (ho : Others ts w w') (h1 : tp ∉ ts) : OwnP tp w' B v l := own_others h ho h1
theorem OwnW.others {ts : List TypeId} {l : List CWord} (h : OwnW tp tw w B v l) (ho : Others ts w w') (h1 : tp ∉ ts) (h2 : tw ∉ ts) : OwnW tp tw w' B v l :=
  let ⟨vs, g1, g2, g3⟩ := h
  ⟨vs, g1, own_others g2 ho h2, fun p hp => (g3 p hp).others ho h1⟩
theorem OwnP.but {R : Nat} {t : TypeId} {cs : Array Value} {l : List CPart} (h : OwnP tp w B v l) (hb : But R w w') (hB : Blk w R t cs) (h1 : tp ≠ t) : OwnP tp w' B v l := own_but h hb hB h1
theorem OwnW.but {R : Nat} {t : TypeId} {cs : Array Value} {l : List CWord} (h : OwnW tp tw w B v l) (hb : But R w w') (hB : Blk w R t cs) (h1 : tp ≠ t) (h2 : tw ≠ t) : OwnW tp tw w' B v l :=
  let ⟨vs, g1, g2, g3⟩ := h
  ⟨vs, g1, own_but g2 hb hB h2, fun p hp => (g3 p hp).but hb hB h1⟩
theorem OwnC.but {R : Nat} {t : TypeId} {cs : Array Value} {l : List CCmd} (h : OwnC tp tw tc w B v l) (hb : But R w w') (hB : Blk w R t cs) (h1 : tp ≠ t) (h2 : tw ≠ t) (h3 : tc ≠ t) : OwnC tp tw tc w' B v l :=
  let ⟨vs, g1, g2, g4⟩ := h
  ⟨vs, g1, own_but g2 hb hB h3, fun p hp => (g4 p hp).but hb hB h1 h2⟩
/-- What a push onto the words leaves: the row and what its words hold. -/
theorem OwnW.push {l : List CWord} {v2 : Value} {u : Value} {x : CWord} {vs : List (CWord × Value)} (h1 : vs.map Prod.fst = l) (h2 : w'.ownsRow B tw 3 v2 (l.length + 1) (vs.flatMap wdc ++ wdc (x, u))) (h3 : ∀ p ∈ vs, OwnP tp w' B p.2 p.1.parts) (h4 : OwnP tp w' B u x.parts) : OwnW tp tw w' B v2 (l ++ [x]) := by
  refine ⟨vs ++ [(x, u)], by simp [h1], ?_, fun p hp => ?_⟩
  · rw [List.length_append, List.flatMap_append]
    simpa using h2
  · rcases List.mem_append.1 hp with hp | hp
    · exact h3 p hp
    · simp only [List.mem_singleton] at hp
      subst hp
      exact h4
theorem OwnC.push {l : List CCmd} {v2 : Value} {u : Value} {x : CCmd} {vs : List (CCmd × Value)} (h1 : vs.map Prod.fst = l) (h2 : w'.ownsRow B tc 2 v2 (l.length + 1) (vs.flatMap cmc ++ cmc (x, u))) (h3 : ∀ p ∈ vs, OwnW tp tw w' B p.2 p.1.words) (h4 : OwnW tp tw w' B u x.words) : OwnC tp tw tc w' B v2 (l ++ [x]) := by
  refine ⟨vs ++ [(x, u)], by simp [h1], ?_, fun p hp => ?_⟩
  · rw [List.length_append, List.flatMap_append]
    simpa using h2
  · rcases List.mem_append.1 hp with hp | hp
    · exact h3 p hp
    · simp only [List.mem_singleton] at hp
      subst hp
      exact h4
/- values that read as parts, words, commands -/
def RdP (w : World) (v : Value) (l : List CPart) : Prop := ∃ A c, v = .slice A l.length c ∧ RdL w 4 cpc A l ∧ (A = none → c = 0) ∧ l.length ≤ c ∧ c ≤ maxLen
def RdW (w : World) (v : Value) (l : List CWord) : Prop := ∃ A c, ∃ vs : List (CWord × Value), v = .slice A l.length c ∧ vs.map Prod.fst = l ∧ RdL w 3 wdc A vs ∧ (∀ p ∈ vs, RdP w p.2 p.1.parts) ∧ (A = none → c = 0) ∧ l.length ≤ c ∧ c ≤ maxLen
def RdC (w : World) (v : Value) (l : List CCmd) : Prop := ∃ A c, ∃ vs : List (CCmd × Value), v = .slice A l.length c ∧ vs.map Prod.fst = l ∧ RdL w 2 cmc A vs ∧ (∀ p ∈ vs, RdW w p.2 p.1.words) ∧ (A = none → c = 0) ∧ l.length ≤ c ∧ c ≤ maxLen
theorem RdP.below {l : List CPart} (h : RdP w v l) (hb : Below w.heap.size w w') : RdP w' v l :=
  let ⟨A, c, h1, h2, h3⟩ := h
  ⟨A, c, h1, h2.below hb, h3⟩
theorem RdW.below {l : List CWord} (h : RdW w v l) (hb : Below w.heap.size w w') : RdW w' v l :=
  let ⟨A, c, vs, h1, h2, h3, h4, h5⟩ := h
  ⟨A, c, vs, h1, h2, h3.below hb, fun p hp => (h4 p hp).below hb, h5⟩
theorem RdC.below {l : List CCmd} (h : RdC w v l) (hb : Below w.heap.size w w') : RdC w' v l :=
  let ⟨A, c, vs, h1, h2, h3, h4, h5⟩ := h
  ⟨A, c, vs, h1, h2, h3.below hb, fun p hp => (h4 p hp).below hb, h5⟩
theorem OwnP.rd {l : List CPart} (h : OwnP tp w B v l) : RdP w v l :=
  let ⟨A, c, h1, h2, h3, h4, h5⟩ := RdL.of_own cpc_len h rfl
  ⟨A, c, h1, h4, h5, h2, h3⟩
theorem OwnW.rd {l : List CWord} (h : OwnW tp tw w B v l) : RdW w v l := by
  obtain ⟨vs, h1, h2, h3⟩ := h
  have hl : l.length = vs.length := by rw [← h1, List.length_map]
  obtain ⟨A, c, g1, g2, g3, g4, g5⟩ := RdL.of_own wdc_len h2 hl
  exact ⟨A, c, vs, g1, h1, g4, fun p hp => (h3 p hp).rd, g5, g2, g3⟩
theorem OwnC.rd {l : List CCmd} (h : OwnC tp tw tc w B v l) : RdC w v l := by
  obtain ⟨vs, h1, h2, h3⟩ := h
  have hl : l.length = vs.length := by rw [← h1, List.length_map]
  obtain ⟨A, c, g1, g2, g3, g4, g5⟩ := RdL.of_own cmc_len h2 hl
  exact ⟨A, c, vs, g1, h1, g4, fun p hp => (h3 p hp).rd, g5, g2, g3⟩
theorem RdL.cparts {w : World} {b o : Nat} {l : List CPart} (h : RdL w 4 cpc (some ⟨b, o, none⟩) l) {k : Nat} (hk : k < l.length) :
    w.cell? ⟨b, o + k * 4, none⟩ = some (.int .i64 l[k].kind) ∧ w.cell? ⟨b, o + k * 4 + 1, none⟩ = some (.int .i64 l[k].pos) ∧ w.cell? ⟨b, o + k * 4 + 2, none⟩ = some (.int .i64 l[k].n) ∧ w.cell? ⟨b, o + k * 4 + 3, none⟩ = some (.string ⟨l[k].s.toArray⟩) := by
  have h0 := (h.at_ hk).2
  exact ⟨by simpa using h0 0 _ rfl, h0 1 _ rfl, h0 2 _ rfl, h0 3 _ rfl⟩
theorem RdL.cwords {w : World} {b o : Nat} {l : List (CWord × Value)} (h : RdL w 3 wdc (some ⟨b, o, none⟩) l) {k : Nat} (hk : k < l.length) :
    w.cell? ⟨b, o + k * 3, none⟩ = some (.int .i64 l[k].1.pos) ∧ w.cell? ⟨b, o + k * 3 + 1, none⟩ = some (.bool l[k].1.braced) ∧ w.cell? ⟨b, o + k * 3 + 2, none⟩ = some l[k].2 := by
  have h0 := (h.at_ hk).2
  exact ⟨by simpa using h0 0 _ rfl, h0 1 _ rfl, h0 2 _ rfl⟩
theorem RdL.ccmds {w : World} {b o : Nat} {l : List (CCmd × Value)} (h : RdL w 2 cmc (some ⟨b, o, none⟩) l) {k : Nat} (hk : k < l.length) :
    w.cell? ⟨b, o + k * 2, none⟩ = some (.int .i64 l[k].1.pos) ∧ w.cell? ⟨b, o + k * 2 + 1, none⟩ = some l[k].2 := by
  have h0 := (h.at_ hk).2
  exact ⟨by simpa using h0 0 _ rfl, h0 1 _ rfl⟩
end
end Go.Proofs.YtlhpflilpdceiaaDoor
