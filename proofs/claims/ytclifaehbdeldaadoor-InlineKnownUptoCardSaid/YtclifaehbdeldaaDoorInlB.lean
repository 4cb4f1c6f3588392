/- A row of nodes lies apart from a small block; what a map of functions holds; both stay where only that block changes. No condition. -/
import Derived.Test.YtclifaehbdeldaaDoorMapR
import Derived.Test.YtclifaehbdeldaaDoorCoreV
import Derived.Test.YtclifaehbdeldaaDoorInlM
import Derived.Test.YtclifaehbdeldaaDoorStrc
set_option linter.unusedVariables false
set_option linter.unusedSimpArgs false
namespace Go.Proofs.YtclifaehbdeldaaDoor
open Go.RowKit Go.Maps

theorem RdL.apart5 {w : World} {b o : Nat} {L : List Nd} (h : RdL w 5 ndc (some ⟨b, o, none⟩) L) (hL : 0 < L.length) {g : Nat} {t : TypeId} {cs : Array Value} (hg : Blk w g t cs) (hc : cs.size ≤ 4) : b ≠ g := by
  rintro rfl
  have h4 := (h.at_ hL).2 4 _ rfl
  rw [hg.cell, Array.getElem?_eq_none (by omega)] at h4
  cases h4
theorem SlRd.but {w w' : World} {v : Value} {L : List Nd} (h : SlRd w v L) {B : Nat} {t : TypeId} {cs : Array Value} (hg : Blk w B t cs) (hc : cs.size ≤ 4) (hb : But B w w') : SlRd w' v L := by
  obtain ⟨A, c, rfl, hrd, h2⟩ := h
  refine ⟨A, c, rfl, fun k hk => ?_, h2⟩
  obtain ⟨b, o, rfl, hlt, hcell⟩ := hrd k hk
  have hne := hrd.apart5 (by omega) hg hc
  exact ⟨b, o, rfl, Nat.lt_of_lt_of_le hlt hb.size, fun j u hu => hb.cell (hcell j u hu) hne⟩
/-- .. and of a map's block. -/
theorem SlRd.butMap {w w' : World} {v : Value} {L : List Nd} (h : SlRd w v L) {B : Nat} {es : Array MapEntry} {ck : Nat} (hg : w.heap[B]? = some (.map es ck)) (hb : But B w w') : SlRd w' v L := by
  obtain ⟨A, c, rfl, hrd, h2⟩ := h
  refine ⟨A, c, rfl, fun k hk => ?_, h2⟩
  obtain ⟨b, o, rfl, hlt, hcell⟩ := hrd k hk
  have hne : b ≠ B := by
    rintro rfl
    have h4 := hcell 4 _ rfl
    simp only [World.cell?, hg] at h4
    cases h4
  exact ⟨b, o, rfl, Nat.lt_of_lt_of_le hlt hb.size, fun j u hu => hb.cell (hcell j u hu) hne⟩
theorem OwnAll.but {w w' : World} {base : Nat} {vs : List Value} {ls : List (List Nd)} (h : OwnAll w base vs ls) {B : Nat} {t : TypeId} {cs : Array Value} (hg : Blk w B t cs) (hn : 45 ≠ t) (hb : But B w w') : OwnAll w' base vs ls :=
  ⟨h.1, fun i hi v hv => own_but (h.2 i hi v hv) hb hg hn⟩
theorem OwnAll.set {w : World} {base : Nat} {vs : List Value} {ls : List (List Nd)} (h : OwnAll w base vs ls) (i : Nat) {v : Value} {L : List Nd} (hv : w.ownsRow base 45 5 v L.length (L.flatMap ndc)) : OwnAll w base (vs.set i v) (ls.set i L) := by
  refine ⟨by simp [h.1], fun j hj u hu => ?_⟩
  rw [List.length_set] at hj
  by_cases hij : i = j
  · subst hij
    rw [List.getElem?_set_self (by rw [h.1]; exact hj)] at hu
    injection hu with hu
    subst hu
    rw [List.getElem_set_self]
    exact hv
  · rw [List.getElem?_set_ne hij] at hu
    rw [List.getElem_set_ne hij]
    exact h.2 j hj u hu

/-- A map of functions: it holds at each name the row of its command. -/
def bodR (w : World) (v : Value) (b : Tr) : Prop := SlRd w v (flat b)
abbrev BodR (w : World) (mb N : Nat) (B : Body) : Prop := MapR bodR w mb N B
theorem BodR.below' {w w' : World} {mb N : Nat} {B : Body} (h : BodR w mb N B) (hb : Below w.heap.size w w') : BodR w' mb N B := MapR.below h hb fun v x hx => SlRd.below hx hb
theorem BodR.but {w w' : World} {mb N g : Nat} {B : Body} (h : BodR w mb N B) {t : TypeId} {cs : Array Value} (hg : Blk w g t cs) (hc : cs.size ≤ 4) (hb : But g w w') : BodR w' mb N B :=
  MapR.keep h (hb.block mb (MapR.lt h) (MapR.notCells h hg)) fun v x hx => SlRd.but hx hg hc hb
theorem MapIs.isMap {P : Program} {k : TypeId} {w : World} {b n : Nat} {f : List UInt8 → Option Value} (h : MapIs P k w b n f) : ∃ es ck, w.heap[b]? = some (.map es ck) := by
  obtain ⟨D, ⟨es, clock, h1, _⟩, _⟩ := h
  exact ⟨es, clock, h1⟩
theorem MapR.isMap {α : Type} {R : World → Value → α → Prop} {w : World} {b N : Nat} {B : List UInt8 → Option α} (h : MapR R w b N B) : ∃ es ck, w.heap[b]? = some (.map es ck) :=
  let ⟨F, h1, _⟩ := h
  h1.isMap
theorem BodR.put' {w : World} {mb N : Nat} {B : Body} {t e : TypeId} (h : BodR w mb N B) (ht : Tryd.prog.underlying t = some (.map 9 e)) (hn : N < maxLen) {s : List UInt8} (hs : s.length ≤ maxLen) {v : Value} {x : Tr} (hv : SlRd w v (flat x)) :
    ∃ w', (Instr.mapUpdate t (.map (some mb)) (.string ⟨s.toArray⟩) v).run Tryd.prog w = .ok () w' ∧ BodR w' mb (N + 1) (fun y => if y = s then some x else B y) ∧ But mb w w' := by
  obtain ⟨es, ck, hm⟩ := MapR.isMap h
  exact MapR.put h ht hn hs hv fun w' v x hb hx => SlRd.butMap hx hm hb
theorem own_butMap {w w' : World} {base : Nat} {e : TypeId} {sz n : Nat} {v : Value} {xs : List Value} (h : w.ownsRow base e sz v n xs) {B : Nat} {es : Array MapEntry} {ck : Nat} (hm : w.heap[B]? = some (.map es ck)) (hb : But B w w') : w'.ownsRow base e sz v n xs := by
  refine ⟨h.1, ?_⟩
  rcases h.2 with hn' | ⟨g, cap, cur, rfl, hb', hg, rest⟩
  · exact .inl hn'
  · refine .inr ⟨g, cap, cur, rfl, hb', (hb.block g (Array.getElem?_eq_some_iff.1 hg).1 ?_).trans hg, rest⟩
    rintro rfl
    rw [hm] at hg
    cases hg
theorem own_notMap {w : World} {base : Nat} {e : TypeId} {sz n c : Nat} {g : Nat} {xs : List Value} (h : w.ownsRow base e sz (.slice (some ⟨g, 0, none⟩) n c) n xs) {B : Nat} {es : Array MapEntry} {ck : Nat} (hm : w.heap[B]? = some (.map es ck)) : g ≠ B := by
  rintro rfl
  rcases h.2 with ⟨h', _⟩ | ⟨g', cap, cur, h', hb', hg, rest⟩
  · simp at h'
  · simp only [Value.slice.injEq, Option.some.injEq, Addr.mk.injEq, and_true, true_and] at h'
    obtain ⟨rfl, rfl⟩ := h'
    rw [hm] at hg
    cases hg
theorem cell_notMap {w : World} {p : Addr} {v : Value} (h : w.cell? p = some v) {B : Nat} {es : Array MapEntry} {ck : Nat} (hm : w.heap[B]? = some (.map es ck)) : p.block ≠ B := by
  rintro rfl
  simp only [World.cell?, hm] at h
  cases h
theorem flat_kid {t k : Tr} {x : Nd} (hk : k ∈ t.kids) (hx : x ∈ flat k) : x ∈ flat t := by
  obtain ⟨kd, n, s, ks⟩ := t
  rw [flat_mk]
  refine List.mem_cons_of_mem _ ?_
  rw [← flatAll_flatten]
  exact List.mem_flatten.2 ⟨_, List.mem_map.2 ⟨k, hk, rfl⟩, hx⟩
end Go.Proofs.YtclifaehbdeldaaDoor
