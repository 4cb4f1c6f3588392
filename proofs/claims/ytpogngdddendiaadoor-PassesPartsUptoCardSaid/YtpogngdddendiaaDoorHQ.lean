/- Maps whose elements are read as they are: laws at the operations. No condition. -/
import Derived.Test.YtpogngdddendiaaDoorBase
import Derived.Maps.OwnSet
import Derived.StringKeys
import Derived.Sort.KeysCollected
import Derived.Test.YtpogngdddendiaaDoorProg
set_option linter.unusedVariables false
set_option linter.unusedSimpArgs false
namespace Go.Proofs.YtpogngdddendiaaDoor
open Go.RowKit Go.Maps

/-- An element as it is. -/
def hR (v : Value) : Option (DataW Value × List MemPlace) := some (.held v, [])
section
variable {P : Program} {w : World} {k e t : TypeId} {b n : Nat} {D : DataW Value}
theorem look_held (h : w.ownsMap P k hR b n D) (K : Keyed P k) (ht : P.underlying t = some (.map k e)) {z : Value} (hz : (zeroValue e).run P w = .ok z w) {key : Value} {kl : Lit} (hkey : keyOf P k key = some kl) {f : Value} (h2 : D.atKey kl (.held z) = .held f) :
    (Instr.lookup t (.map (some b)) key true).run P w = .ok (.tuple #[f, .bool (Maps.has D kl)]) w := by
  obtain ⟨v, ps, hrun, hv⟩ := h.look_ok K ht hz (zd := .held z) (zp := []) rfl hkey
  have : v = f ∧ ps = [] := by
    rw [h2] at hv
    simpa [hR] using hv
  obtain ⟨rfl, -⟩ := this
  exact hrun
theorem look_held1 (h : w.ownsMap P k hR b n D) (K : Keyed P k) (ht : P.underlying t = some (.map k e)) {z : Value} (hz : (zeroValue e).run P w = .ok z w) {key : Value} {kl : Lit} (hkey : keyOf P k key = some kl) {f : Value} (h2 : D.atKey kl (.held z) = .held f) :
    (Instr.lookup t (.map (some b)) key false).run P w = .ok f w := by
  obtain ⟨v, ps, hrun, hv⟩ := h.lookup K ht hz (zd := .held z) (zp := []) rfl hkey
  have : v = f ∧ ps = [] := by
    rw [h2] at hv
    simpa [hR] using hv
  obtain ⟨rfl, -⟩ := this
  exact hrun
/-- An entry of a map that is written out. -/
theorem wpList_insert_held {ops : Array Oper} {rest : List Oper} {o : Oper} {a : Act} {Q : Exit → Act → World → Prop} (hg : o.guard = none) (m x v : Operand) (t : TypeId) (hop : o.op = Op.insert t m x v) (K : Keyed P k) (ht : P.underlying t = some (.map k e))
    (hm : a.eval m = .map (some b)) (hown : w.ownsMap P k hR b n D) (hn : n < maxLen) {key val : Value} {kl : Lit} (hx : a.eval x = key) (hv : a.eval v = val) (hkey : keyOf P k key = some kl)
    (hK : ∀ w', w'.ownsMap P k hR b (n + 1) (D.put kl (.held val)) → w.grownBy w' (some b) → wpList P ops Q rest (a.put o.dst undef) w') :
    wpList P ops Q (o :: rest) a w := by
  refine wpList_plain hg fun K' hK' => ?_
  obtain ⟨w', hrun, r1, r2⟩ := hown.update K ht hn hkey (val := val) (d := .held val) (ps := []) rfl
  unfold Oper.wp
  simp [execOp, hop, hm, hx, hv, hrun, Result.andThen]
  exact hK' _ _ (hK w' r1 r2)
theorem ownsMap_below {w' : World} (h : w.ownsMap P k hR b n D) (hb : Below w.heap.size w w') : w'.ownsMap P k hR b n D := by
  obtain ⟨es, clock, h1, h2⟩ := h
  exact ⟨es, clock, (hb.block b (Array.getElem?_eq_some_iff.1 h1).1).trans h1, h2⟩
end
end Go.Proofs.YtpogngdddendiaaDoor

/- Memory where one block changes: all else stands. No condition. -/
set_option linter.unusedVariables false
set_option linter.unusedSimpArgs false
namespace Go.Proofs.YtpogngdddendiaaDoor
open Go.RowKit

/-- All blocks that were there, but one, stand as they stood. -/
structure But (B : Nat) (w w' : World) : Prop where
  os : w'.os = w.os
  tape : w'.tape = w.tape
  output : w'.output = w.output
  size : w.heap.size ≤ w'.heap.size
  block : ∀ k, k < w.heap.size → k ≠ B → w'.heap[k]? = w.heap[k]?
theorem But.refl (B : Nat) (w : World) : But B w w := ⟨rfl, rfl, rfl, Nat.le_refl _, fun _ _ _ => rfl⟩
theorem But.trans {B : Nat} {a b c : World} (h : But B a b) (k : But B b c) : But B a c :=
  ⟨k.os.trans h.os, k.tape.trans h.tape, k.output.trans h.output, Nat.le_trans h.size k.size, fun i hi hn => (k.block i (Nat.lt_of_lt_of_le hi h.size) hn).trans (h.block i hi hn)⟩
theorem But.of {B : Nat} {w w' : World} (h : Below w.heap.size w w') : But B w w' := ⟨h.os, h.tape, h.output, h.size, fun k hk _ => h.block k hk⟩
/-- From a later base on. -/
theorem But.of2 {B : Nat} {w0 w w' : World} (h : But B w0 w) (h2 : Below w0.heap.size w w') : But B w0 w' :=
  ⟨h2.os.trans h.os, h2.tape.trans h.tape, h2.output.trans h.output, Nat.le_trans h.size h2.size, fun k hk hn => (h2.block k hk).trans (h.block k hk hn)⟩
theorem But.set {B : Nat} (w : World) (i : Nat) (u : Value) : But B w (w.setCell ⟨B, i, none⟩ u) :=
  ⟨rfl, rfl, rfl, by simp [World.setCell], fun k hk hn => Below.heap_setCell _ _ _ _ hn⟩
theorem But.below {B n : Nat} {w w' : World} (h : But B w w') (hn : n ≤ B) (hs : n ≤ w.heap.size) : Below n w w' :=
  ⟨h.os, h.tape, h.output, h.size, fun k hk => h.block k (by omega) (by omega)⟩
theorem But.cell {B : Nat} {w w' : World} {p : Addr} {v : Value} (h : But B w w') (hc : w.cell? p = some v) (hp : p.block ≠ B) : w'.cell? p = some v :=
  (World.cell?_of_block (w := w) (h.block p.block (World.block_lt_of_cell? _ _ hc) hp)).trans hc
theorem But.blk {B g : Nat} {w w' : World} {t : TypeId} {cs : Array Value} (h : But B w w') (hg : Blk w g t cs) (hne : g ≠ B) : Blk w' g t cs := (h.block g hg.lt hne).trans hg
theorem Blk.apart {w : World} {g k : Nat} {t u : TypeId} {cs cu : Array Value} (h : Blk w g t cs) (h' : Blk w k u cu) (hn : t ≠ u) : g ≠ k := fun e => by
  subst e
  unfold Blk at h h'
  rw [h] at h'
  injection h' with h'
  injection h' with _ h2
  exact hn h2
theorem own_but {B : Nat} {w w' : World} {base : Nat} {e : TypeId} {sz n : Nat} {v : Value} {xs : List Value} {t : TypeId} {cs : Array Value} (h : w.ownsRow base e sz v n xs) (hb : But B w w') (hB : Blk w B t cs) (hn : e ≠ t) : w'.ownsRow base e sz v n xs := by
  refine ⟨h.1, ?_⟩
  rcases h.2 with hn' | ⟨g, cap, cur, rfl, hb', hg, rest⟩
  · exact .inl hn'
  · exact .inr ⟨g, cap, cur, rfl, hb', (hb.block g (Array.getElem?_eq_some_iff.1 hg).1 (Blk.apart hg hB hn)).trans hg, rest⟩

end Go.Proofs.YtpogngdddendiaaDoor

/- Maps whose keys are texts, told as what they hold at each text: laws at the operations. No condition. -/
set_option linter.unusedVariables false
set_option linter.unusedSimpArgs false
namespace Go.Proofs.YtpogngdddendiaaDoor
open Go.RowKit Go.Maps Go.Sort

/-- The map in block b holds at each text just what f says; it has at most n entries. -/
def MapIs (P : Program) (k : TypeId) (w : World) (b n : Nat) (f : List UInt8 → Option Value) : Prop :=
  ∃ D : DataW Value, w.ownsMap P k hR b n D ∧ (∀ s, Maps.has D (.string s) = (f s).isSome) ∧ ∀ s v zd, f s = some v → D.atKey (.string s) zd = .held v
section
variable {P : Program} {w w' : World} {k e t : TypeId} {b n : Nat} {f : List UInt8 → Option Value}
theorem MapIs.made (w : World) (P : Program) (k : TypeId) : MapIs P k (w.alloc (.map #[] 0)) w.heap.size 0 (fun _ => none) :=
  ⟨.map [], World.ownsMap_made w _ _ _, fun s => rfl, fun s v zd h => by cases h⟩
theorem MapIs.congr (h : MapIs P k w b n f) {g : List UInt8 → Option Value} (hg : ∀ s, f s = g s) : MapIs P k w b n g := by
  rwa [show g = f from funext fun s => (hg s).symm]
theorem MapIs.mono (h : MapIs P k w b n f) {m : Nat} (hm : n ≤ m) : MapIs P k w b m f :=
  let ⟨D, h1, h2⟩ := h
  ⟨D, h1.mono hm, h2⟩
theorem MapIs.lt (h : MapIs P k w b n f) : b < w.heap.size :=
  let ⟨_, h1, _⟩ := h
  h1.lt
theorem MapIs.below (h : MapIs P k w b n f) (hb : Below w.heap.size w w') : MapIs P k w' b n f :=
  let ⟨D, h1, h2⟩ := h
  ⟨D, ownsMap_below h1 hb, h2⟩
theorem MapIs.but {B : Nat} (h : MapIs P k w b n f) (hb : But B w w') (hne : b ≠ B) : MapIs P k w' b n f := by
  obtain ⟨D, ⟨es, clock, h1, h2⟩, h3⟩ := h
  exact ⟨D, ⟨es, clock, (hb.block b (Array.getElem?_eq_some_iff.1 h1).1 hne).trans h1, h2⟩, h3⟩
theorem MapIs.others {ts : List TypeId} (h : MapIs P k w b n f) (hb : w'.heap[b]? = w.heap[b]?) : MapIs P k w' b n f := by
  obtain ⟨D, ⟨es, clock, h1, h2⟩, h3⟩ := h
  exact ⟨D, ⟨es, clock, hb.trans h1, h2⟩, h3⟩
theorem grown_but (h : w.grownBy w' (some b)) : But b w w' := ⟨h.os, h.tape, h.output, h.size, fun k hk hn => h.block k hk (fun e => hn (by injection e))⟩
section
variable (hk : P.underlying k = some .string)
include hk
theorem sKey {s : List UInt8} (hs : s.length ≤ maxLen) : keyOf P k (.string ⟨s.toArray⟩) = some (.string s) := by
  have := WideMaps.keyOf_string_mk hk (s := ⟨s.toArray⟩) (by show s.toArray.size ≤ _; rw [List.size_toArray]; exact hs)
  exact this
theorem MapIs.look (h : MapIs P k w b n f) (ht : P.underlying t = some (.map k e)) {z : Value} (hz : (zeroValue e).run P w = .ok z w) {s : List UInt8} (hs : s.length ≤ maxLen) :
    (Instr.lookup t (.map (some b)) (.string ⟨s.toArray⟩) true).run P w = .ok (.tuple #[(f s).getD z, .bool (f s).isSome]) w := by
  obtain ⟨D, h1, h2, h3⟩ := h
  have hat : D.atKey (.string s) (.held z) = .held ((f s).getD z) := by
    cases hf : f s with
    | some v => exact h3 s v _ hf
    | none =>
      have := h2 s
      rw [hf] at this
      exact atKey_of_not_has this _
  have := look_held h1 (string_keyed hk) ht hz (sKey hk hs) hat
  rwa [h2 s] at this
theorem MapIs.look1 (h : MapIs P k w b n f) (ht : P.underlying t = some (.map k e)) {z : Value} (hz : (zeroValue e).run P w = .ok z w) {s : List UInt8} (hs : s.length ≤ maxLen) :
    (Instr.lookup t (.map (some b)) (.string ⟨s.toArray⟩) false).run P w = .ok ((f s).getD z) w := by
  obtain ⟨D, h1, h2, h3⟩ := h
  have hat : D.atKey (.string s) (.held z) = .held ((f s).getD z) := by
    cases hf : f s with
    | some v => exact h3 s v _ hf
    | none =>
      have := h2 s
      rw [hf] at this
      exact atKey_of_not_has this _
  exact look_held1 h1 (string_keyed hk) ht hz (sKey hk hs) hat
theorem MapIs.put (h : MapIs P k w b n f) (ht : P.underlying t = some (.map k e)) (hn : n < maxLen) {s : List UInt8} (hs : s.length ≤ maxLen) (v : Value) :
    ∃ w', (Instr.mapUpdate t (.map (some b)) (.string ⟨s.toArray⟩) v).run P w = .ok () w' ∧ MapIs P k w' b (n + 1) (fun x => if x = s then some v else f x) ∧ w.grownBy w' (some b) := by
  obtain ⟨D, h1, h2, h3⟩ := h
  obtain ⟨w', hrun, r1, r2⟩ := h1.update (string_keyed hk) ht hn (sKey hk hs) (val := v) (d := .held v) (ps := []) rfl
  have hne : ∀ x : List UInt8, x ≠ s → (Lit.string x) ≠ .string s := fun x hx e => hx (by injection e)
  refine ⟨w', hrun, ⟨_, r1, fun x => ?_, fun x u zd hx => ?_⟩, r2⟩
  · by_cases hxs : x = s
    · subst hxs
      rw [has_put_same h1.isMap (by trivial)]
      simp
    · rw [has_put_other (hne x hxs), h2 x]
      simp [hxs]
  · by_cases hxs : x = s
    · subst hxs
      simp only [if_true, Option.some.injEq] at hx
      subst hx
      exact atKey_put_same h1.isMap (by trivial) _ _
    · simp only [hxs, if_false] at hx
      rw [atKey_put_other (hne x hxs)]
      exact h3 x u zd hx
theorem MapIs.drop (h : MapIs P k w b n f) (ht : P.underlying t = some (.map k e)) {s : List UInt8} (hs : s.length ≤ maxLen) (ty : TypeId) :
    ∃ w', (Builtin.delete_ #[t, k] ty #[.map (some b), .string ⟨s.toArray⟩]).run P w = .ok (.tuple #[]) w' ∧ MapIs P k w' b n (fun x => if x = s then none else f x) ∧ w.grownBy w' (some b) := by
  obtain ⟨D, h1, h2, h3⟩ := h
  obtain ⟨w', hrun, r1, r2⟩ := h1.drop (string_keyed hk) ht (sKey hk hs) ty
  have hne : ∀ x : List UInt8, x ≠ s → (Lit.string x) ≠ .string s := fun x hx e => hx (by injection e)
  refine ⟨w', hrun, ⟨_, r1, fun x => ?_, fun x u zd hx => ?_⟩, r2.grown⟩
  · by_cases hxs : x = s
    · subst hxs
      rw [has_del_same]
      simp
    · rw [has_del_other (hne x hxs), h2 x]
      simp [hxs]
  · by_cases hxs : x = s
    · subst hxs
      simp at hx
    · simp only [hxs, if_false] at hx
      rw [atKey_del_other (hne x hxs)]
      exact h3 x u zd hx
/-- The keys: each text that is held, once. -/
theorem MapIs.keys (h : MapIs P k w b n f) : ∃ D : DataW Value, w.ownsMap P k hR b n D ∧ (strKeys D).Nodup ∧ ∀ s, s ∈ strKeys D ↔ (f s).isSome = true := by
  obtain ⟨D, h1, h2, h3⟩ := h
  have h1' := h1
  obtain ⟨es, clock, hb, F, hs, rfl⟩ := h1
  have hE := fit_apart (string_keyed hk) F
  have hpm := WideShapes.sorted_perm (es.toList.map (WideElems.rg P k hR))
  have hky : ∀ p ∈ (es.toList.map (WideElems.rg P k hR)).foldr DataW.insert [], ∃ x, p.1 = .string x := fun p hp => by
    obtain ⟨v, hv⟩ := fit_keys F p (hpm.mem_iff.1 hp)
    obtain ⟨x, _, hx, _⟩ := Maps.keyOf_str hk hv
    exact ⟨x, hx⟩
  have hap : ((es.toList.map (WideElems.rg P k hR)).foldr DataW.insert []).Pairwise (fun p q => p.1 ≠ q.1) := (hpm.pairwise_iff (fun {a b} h => fun e => h e.symm)).2 hE
  refine ⟨_, h1', ?_, fun s => ?_⟩
  · show (((es.toList.map (WideElems.rg P k hR)).foldr DataW.insert []).map fun p => strOf p.1).Nodup
    refine List.pairwise_map.2 (hap.imp_of_mem fun {p q} hp' hq' hne e => hne ?_)
    obtain ⟨a, ha⟩ := hky p hp'
    obtain ⟨c, hc⟩ := hky q hq'
    rw [ha, hc] at e ⊢
    exact congrArg _ e
  · rw [← h2 s, has_eq, List.any_eq_true]
    show s ∈ (((es.toList.map (WideElems.rg P k hR)).foldr DataW.insert []).map fun p => strOf p.1) ↔ _
    rw [List.mem_map]
    constructor
    · rintro ⟨p, hp', hs'⟩
      obtain ⟨a, ha⟩ := hky p hp'
      rw [ha] at hs'
      exact ⟨p, hp', by rw [ha]; simpa [Lit.sameKey, strOf] using hs'⟩
    · rintro ⟨p, hp', hs'⟩
      obtain ⟨a, ha⟩ := hky p hp'
      rw [ha] at hs'
      exact ⟨p, hp', by rw [ha]; simpa [Lit.sameKey, strOf] using hs'⟩
end
end
end Go.Proofs.YtpogngdddendiaaDoor

/- Maps whose keys are texts and whose elements stand for something in memory. No condition. -/
set_option linter.unusedVariables false
set_option linter.unusedSimpArgs false
namespace Go.Proofs.YtpogngdddendiaaDoor
open Go.RowKit Go.Maps Go.Sort

theorem mstr : Tryd.prog.underlying 9 = some .string := Tryd.underlying9
theorem MapIs.notCells {P : Program} {k : TypeId} {w : World} {b n g : Nat} {f : List UInt8 → Option Value} {t : TypeId} {cs : Array Value} (h : MapIs P k w b n f) (hg : Blk w g t cs) : b ≠ g := by
  rintro rfl
  obtain ⟨D, ⟨es, clock, h1, _⟩, _⟩ := h
  unfold Blk at hg
  rw [h1] at hg
  cases hg
/-- How many names there are. -/
theorem MapIs.len {P : Program} {k e t : TypeId} {w : World} {b n : Nat} {f : List UInt8 → Option Value} (h : MapIs P k w b n f) (hk : P.underlying k = some .string) (ht : P.underlying t = some (.map k e)) (ty : TypeId) :
    ∃ q : Nat, (Builtin.len_ #[t] ty #[.map (some b)]).run P w = .ok (.int .i64 q) w ∧ q ≤ n ∧ ∃ ss : List (List UInt8), ss.length = q ∧ ss.Nodup ∧ ∀ s, s ∈ ss ↔ (f s).isSome = true := by
  obtain ⟨D, h1, h2, h3⟩ := h.keys hk
  refine ⟨Maps.size D, h1.len ht ty, h1.size_le, strKeys D, ?_, h2, h3⟩
  obtain ⟨es, clock, hb, F, hs, rfl⟩ := h1
  simp [strKeys, Maps.size]

/-- The map in block b holds at each text a value that stands for what B says. -/
def MapR {α : Type} (R : World → Value → α → Prop) (w : World) (b N : Nat) (B : List UInt8 → Option α) : Prop :=
  ∃ F, MapIs Tryd.prog 9 w b N F ∧ ∀ s, (B s = none → F s = none) ∧ ∀ x, B s = some x → ∃ v, F s = some v ∧ R w v x
section
variable {α : Type} {R : World → Value → α → Prop} {w w' : World} {b N : Nat} {B : List UInt8 → Option α} {t e : TypeId}
theorem MapR.made (R : World → Value → α → Prop) (w : World) : MapR R (w.alloc (.map #[] 0)) w.heap.size 0 (fun _ => none) :=
  ⟨_, MapIs.made w _ _, fun s => ⟨fun _ => rfl, fun x h => by cases h⟩⟩
theorem MapR.mono (h : MapR R w b N B) {M : Nat} (hm : N ≤ M) : MapR R w b M B :=
  let ⟨F, h1, h2⟩ := h
  ⟨F, h1.mono hm, h2⟩
theorem MapR.lt (h : MapR R w b N B) : b < w.heap.size :=
  let ⟨F, h1, h2⟩ := h
  h1.lt
theorem MapR.congr (h : MapR R w b N B) {B' : List UInt8 → Option α} (hB : ∀ s, B s = B' s) : MapR R w b N B' := by
  rwa [show B' = B from funext fun s => (hB s).symm]
theorem MapR.keep (h : MapR R w b N B) (hm : w'.heap[b]? = w.heap[b]?) (hR : ∀ v x, R w v x → R w' v x) : MapR R w' b N B :=
  let ⟨F, h1, h2⟩ := h
  ⟨F, h1.others (ts := []) hm, fun s => ⟨(h2 s).1, fun x hs => let ⟨v, h3, h4⟩ := (h2 s).2 x hs; ⟨v, h3, hR v x h4⟩⟩⟩
theorem MapR.keep2 {R' : World → Value → α → Prop} (h : MapR R w b N B) (hm : w'.heap[b]? = w.heap[b]?) (hR : ∀ v x, R w v x → R' w' v x) : MapR R' w' b N B :=
  let ⟨F, h1, h2⟩ := h
  ⟨F, h1.others (ts := []) hm, fun s => ⟨(h2 s).1, fun x hs => let ⟨v, h3, h4⟩ := (h2 s).2 x hs; ⟨v, h3, hR v x h4⟩⟩⟩
theorem MapR.below (h : MapR R w b N B) (hb : Below w.heap.size w w') (hR : ∀ v x, R w v x → R w' v x) : MapR R w' b N B := h.keep (hb.block b h.lt) hR
theorem MapR.notCells (h : MapR R w b N B) {g : Nat} {t : TypeId} {cs : Array Value} (hg : Blk w g t cs) : b ≠ g :=
  let ⟨F, h1, _⟩ := h
  h1.notCells hg
theorem MapR.len (h : MapR R w b N B) (ht : Tryd.prog.underlying t = some (.map 9 e)) (ty : TypeId) :
    ∃ q : Nat, (Builtin.len_ #[t] ty #[.map (some b)]).run Tryd.prog w = .ok (.int .i64 q) w ∧ q ≤ N ∧ (q = 0 ↔ B = fun _ => none) := by
  obtain ⟨F, h1, h2⟩ := h
  obtain ⟨q, hr, hq, ss, hl, _, hm⟩ := h1.len mstr ht ty
  refine ⟨q, hr, hq, ?_⟩
  constructor
  · intro h0
    funext s
    cases hB : B s with
    | none => rfl
    | some x =>
      obtain ⟨v, hv, _⟩ := (h2 s).2 x hB
      have := (hm s).2 (by rw [hv]; rfl)
      rw [List.eq_nil_of_length_eq_zero (hl.trans h0)] at this
      cases this
  · intro h0
    rw [← hl]
    cases ss with
    | nil => rfl
    | cons s t =>
      have := (hm s).1 (List.mem_cons_self ..)
      rw [(h2 s).1 (by rw [h0])] at this
      cases this
/-- What a lookup finds. -/
theorem MapR.look (h : MapR R w b N B) (ht : Tryd.prog.underlying t = some (.map 9 e)) {z : Value} (hz : ∀ W, (zeroValue e).run Tryd.prog W = .ok z W) {s : List UInt8} (hs : s.length ≤ maxLen) :
    ∃ v, (Instr.lookup t (.map (some b)) (.string ⟨s.toArray⟩) true).run Tryd.prog w = .ok (.tuple #[v, .bool (B s).isSome]) w ∧ (B s = none → v = z) ∧ ∀ x, B s = some x → R w v x := by
  obtain ⟨F, h1, h2⟩ := h
  have hr := h1.look mstr ht (hz w) hs
  cases hB : B s with
  | none =>
    rw [(h2 s).1 hB] at hr
    exact ⟨z, hr, fun _ => rfl, fun x h => by cases h⟩
  | some x =>
    obtain ⟨v, hv, hrd⟩ := (h2 s).2 x hB
    rw [hv] at hr
    exact ⟨v, hr, fun h => (by cases h), fun x' h => by injection h with h; subst h; exact hrd⟩
theorem MapR.look1 (h : MapR R w b N B) (ht : Tryd.prog.underlying t = some (.map 9 e)) {z : Value} (hz : ∀ W, (zeroValue e).run Tryd.prog W = .ok z W) {s : List UInt8} (hs : s.length ≤ maxLen) :
    ∃ v, (Instr.lookup t (.map (some b)) (.string ⟨s.toArray⟩) false).run Tryd.prog w = .ok v w ∧ (B s = none → v = z) ∧ ∀ x, B s = some x → R w v x := by
  obtain ⟨F, h1, h2⟩ := h
  have hr := h1.look1 mstr ht (hz w) hs
  cases hB : B s with
  | none =>
    rw [(h2 s).1 hB] at hr
    exact ⟨z, hr, fun _ => rfl, fun x h => by cases h⟩
  | some x =>
    obtain ⟨v, hv, hrd⟩ := (h2 s).2 x hB
    rw [hv] at hr
    exact ⟨v, hr, fun h => (by cases h), fun x' h => by injection h with h; subst h; exact hrd⟩
/-- What putting does. -/
theorem MapR.put (h : MapR R w b N B) (ht : Tryd.prog.underlying t = some (.map 9 e)) (hn : N < maxLen) {s : List UInt8} (hs : s.length ≤ maxLen) {v : Value} {x : α} (hv : R w v x) (hR : ∀ w' v x, But b w w' → R w v x → R w' v x) :
    ∃ w', (Instr.mapUpdate t (.map (some b)) (.string ⟨s.toArray⟩) v).run Tryd.prog w = .ok () w' ∧ MapR R w' b (N + 1) (fun y => if y = s then some x else B y) ∧ But b w w' := by
  obtain ⟨F, h1, h2⟩ := h
  obtain ⟨w', hr, h3, hg⟩ := h1.put mstr ht hn hs v
  have hb := grown_but hg
  refine ⟨w', hr, ⟨_, h3, fun y => ?_⟩, hb⟩
  by_cases hy : y = s
  · simp only [hy, if_true]
    exact ⟨fun h => (by cases h), fun x' h => by injection h with h; subst h; exact ⟨v, rfl, hR _ _ _ hb hv⟩⟩
  · simp only [hy, if_false]
    exact ⟨(h2 y).1, fun x' h => let ⟨u, h4, h5⟩ := (h2 y).2 x' h; ⟨u, h4, hR _ _ _ hb h5⟩⟩
theorem MapR.drop (h : MapR R w b N B) (ht : Tryd.prog.underlying t = some (.map 9 e)) {s : List UInt8} (hs : s.length ≤ maxLen) (ty : TypeId) (hR : ∀ w' v x, But b w w' → R w v x → R w' v x) :
    ∃ w', (Builtin.delete_ #[t, 9] ty #[.map (some b), .string ⟨s.toArray⟩]).run Tryd.prog w = .ok (.tuple #[]) w' ∧ MapR R w' b N (fun y => if y = s then none else B y) ∧ But b w w' := by
  obtain ⟨F, h1, h2⟩ := h
  obtain ⟨w', hr, h3, hg⟩ := h1.drop mstr ht hs ty
  have hb := grown_but hg
  refine ⟨w', hr, ⟨_, h3, fun y => ?_⟩, hb⟩
  by_cases hy : y = s
  · simp only [hy, if_true]
    exact ⟨fun _ => trivial, fun x' h => by cases h⟩
  · simp only [hy, if_false]
    exact ⟨(h2 y).1, fun x' h => let ⟨u, h4, h5⟩ := (h2 y).2 x' h; ⟨u, h4, hR _ _ _ hb h5⟩⟩
/-- The names. -/
theorem MapR.keys (h : MapR R w b N B) : ∃ D : DataW Value, w.ownsMap Tryd.prog 9 hR b N D ∧ (strKeys D).Nodup ∧ ∀ s, s ∈ strKeys D ↔ (B s).isSome = true := by
  obtain ⟨F, h1, h2⟩ := h
  obtain ⟨D, h3, h4, h5⟩ := h1.keys mstr
  refine ⟨D, h3, h4, fun s => ?_⟩
  rw [h5]
  cases hB : B s with
  | none => rw [(h2 s).1 hB]; exact Iff.rfl
  | some x =>
    obtain ⟨v, hv, _⟩ := (h2 s).2 x hB
    rw [hv]
    simp
end
end Go.Proofs.YtpogngdddendiaaDoor
