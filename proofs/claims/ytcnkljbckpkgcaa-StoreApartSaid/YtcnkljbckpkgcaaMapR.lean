/- Maps whose keys are texts and whose elements stand for something in memory. No condition. -/
import Derived.Test.YtcnkljbckpkgcaaProg
import Derived.Test.YtcnkljbckpkgcaaMapS
set_option linter.unusedVariables false
set_option linter.unusedSimpArgs false
namespace Go.Proofs.Ytcnkljbckpkgcaa
open Go.RowKit Go.Maps Go.Sort

theorem mstr : Try.prog.underlying 9 = some .string := Try.underlying9
theorem MapIs.notCells {P : Program} {k : TypeId} {w : World} {b n g : Nat} {f : List UInt8 → Option Value} {t : TypeId} {cs : Array Value} (h : MapIs P k w b n f) (hg : Blk w g t cs) : b ≠ g := by
  rintro rfl
  obtain ⟨D, ⟨es, clock, h1, _⟩, _⟩ := h
  unfold Blk at hg
  rw [h1] at hg
  cases hg
/-- How many names there are. -/
theorem MapIs.len {P : Program} {k e t : TypeId} {w : World} {b n : Nat} {f : List UInt8 → Option Value} (h : MapIs P k w b n f) (hk : P.underlying k = some .string) (ht : P.underlying t = some (.map k e)) (ty : TypeId) :
    ∃ q : Nat, (Builtin.len_ #[t] ty #[.map (some b)]).run P w = .ok (.int .i64 q) w ∧ q ≤ n ∧ ∃ ss : List (List UInt8), ss.length = q ∧ ss.Nodup ∧ ∀ s, s ∈ ss ↔ (f s).isSome = true := by
  obtain ⟨D, h1, h2, h3⟩ := h.keys hk
  refine ⟨Maps.size D, h1.len ht ty, h1.size_le, strKeys D, ?_, h2, h3⟩
  obtain ⟨es, clock, hb, F, hs, rfl⟩ := h1
  simp [strKeys, Maps.size]

/-- The map in block b holds at each text a value that stands for what B says. -/
def MapR {α : Type} (R : World → Value → α → Prop) (w : World) (b N : Nat) (B : List UInt8 → Option α) : Prop :=
  ∃ F, MapIs Try.prog 9 w b N F ∧ ∀ s, (B s = none → F s = none) ∧ ∀ x, B s = some x → ∃ v, F s = some v ∧ R w v x
section
variable {α : Type} {R : World → Value → α → Prop} {w w' : World} {b N : Nat} {B : List UInt8 → Option α} {t e : TypeId}
theorem MapR.made (R : World → Value → α → Prop) (w : World) : MapR R (w.alloc (.map #[] 0)) w.heap.size 0 (fun _ => none) :=
  ⟨_, MapIs.made w _ _, fun s => ⟨fun _ => rfl, fun x h => by cases h⟩⟩
theorem MapR.mono (h : MapR R w b N B) {M : Nat} (hm : N ≤ M) : MapR R w b M B :=
  let ⟨F, h1, h2⟩ := h
  ⟨F, h1.mono hm, h2⟩
theorem MapR.lt (h : MapR R w b N B) : b < w.heap.size :=
  let ⟨F, h1, h2⟩ := h
  h1.lt
theorem MapR.congr (h : MapR R w b N B) {B' : List UInt8 → Option α} (hB : ∀ s, B s = B' s) : MapR R w b N B' := by
  rwa [show B' = B from funext fun s => (hB s).symm]
theorem MapR.keep (h : MapR R w b N B) (hm : w'.heap[b]? = w.heap[b]?) (hR : ∀ v x, R w v x → R w' v x) : MapR R w' b N B :=
  let ⟨F, h1, h2⟩ := h
  ⟨F, h1.others (ts := []) hm, fun s => ⟨(h2 s).1, fun x hs => let ⟨v, h3, h4⟩ := (h2 s).2 x hs; ⟨v, h3, hR v x h4⟩⟩⟩
theorem MapR.keep2 {R' : World → Value → α → Prop} (h : MapR R w b N B) (hm : w'.heap[b]? = w.heap[b]?) (hR : ∀ v x, R w v x → R' w' v x) : MapR R' w' b N B :=
  let ⟨F, h1, h2⟩ := h
  ⟨F, h1.others (ts := []) hm, fun s => ⟨(h2 s).1, fun x hs => let ⟨v, h3, h4⟩ := (h2 s).2 x hs; ⟨v, h3, hR v x h4⟩⟩⟩
theorem MapR.below (h : MapR R w b N B) (hb : Below w.heap.size w w') (hR : ∀ v x, R w v x → R w' v x) : MapR R w' b N B := h.keep (hb.block b h.lt) hR
theorem MapR.notCells (h : MapR R w b N B) {g : Nat} {t : TypeId} {cs : Array Value} (hg : Blk w g t cs) : b ≠ g :=
  let ⟨F, h1, _⟩ := h
  h1.notCells hg
theorem MapR.len (h : MapR R w b N B) (ht : Try.prog.underlying t = some (.map 9 e)) (ty : TypeId) :
    ∃ q : Nat, (Builtin.len_ #[t] ty #[.map (some b)]).run Try.prog w = .ok (.int .i64 q) w ∧ q ≤ N ∧ (q = 0 ↔ B = fun _ => none) := by
  obtain ⟨F, h1, h2⟩ := h
  obtain ⟨q, hr, hq, ss, hl, _, hm⟩ := h1.len mstr ht ty
  refine ⟨q, hr, hq, ?_⟩
  constructor
  · intro h0
    funext s
    cases hB : B s with
    | none => rfl
    | some x =>
      obtain ⟨v, hv, _⟩ := (h2 s).2 x hB
      have := (hm s).2 (by rw [hv]; rfl)
      rw [List.eq_nil_of_length_eq_zero (hl.trans h0)] at this
      cases this
  · intro h0
    rw [← hl]
    cases ss with
    | nil => rfl
    | cons s t =>
      have := (hm s).1 (List.mem_cons_self ..)
      rw [(h2 s).1 (by rw [h0])] at this
      cases this
/-- What a lookup finds. -/
theorem MapR.look (h : MapR R w b N B) (ht : Try.prog.underlying t = some (.map 9 e)) {z : Value} (hz : ∀ W, (zeroValue e).run Try.prog W = .ok z W) {s : List UInt8} (hs : s.length ≤ maxLen) :
    ∃ v, (Instr.lookup t (.map (some b)) (.string ⟨s.toArray⟩) true).run Try.prog w = .ok (.tuple #[v, .bool (B s).isSome]) w ∧ (B s = none → v = z) ∧ ∀ x, B s = some x → R w v x := by
  obtain ⟨F, h1, h2⟩ := h
  have hr := h1.look mstr ht (hz w) hs
  cases hB : B s with
  | none =>
    rw [(h2 s).1 hB] at hr
    exact ⟨z, hr, fun _ => rfl, fun x h => by cases h⟩
  | some x =>
    obtain ⟨v, hv, hrd⟩ := (h2 s).2 x hB
    rw [hv] at hr
    exact ⟨v, hr, fun h => (by cases h), fun x' h => by injection h with h; subst h; exact hrd⟩
theorem MapR.look1 (h : MapR R w b N B) (ht : Try.prog.underlying t = some (.map 9 e)) {z : Value} (hz : ∀ W, (zeroValue e).run Try.prog W = .ok z W) {s : List UInt8} (hs : s.length ≤ maxLen) :
    ∃ v, (Instr.lookup t (.map (some b)) (.string ⟨s.toArray⟩) false).run Try.prog w = .ok v w ∧ (B s = none → v = z) ∧ ∀ x, B s = some x → R w v x := by
  obtain ⟨F, h1, h2⟩ := h
  have hr := h1.look1 mstr ht (hz w) hs
  cases hB : B s with
  | none =>
    rw [(h2 s).1 hB] at hr
    exact ⟨z, hr, fun _ => rfl, fun x h => by cases h⟩
  | some x =>
    obtain ⟨v, hv, hrd⟩ := (h2 s).2 x hB
    rw [hv] at hr
    exact ⟨v, hr, fun h => (by cases h), fun x' h => by injection h with h; subst h; exact hrd⟩
/-- What putting does. -/
theorem MapR.put (h : MapR R w b N B) (ht : Try.prog.underlying t = some (.map 9 e)) (hn : N < maxLen) {s : List UInt8} (hs : s.length ≤ maxLen) {v : Value} {x : α} (hv : R w v x) (hR : ∀ w' v x, But b w w' → R w v x → R w' v x) :
    ∃ w', (Instr.mapUpdate t (.map (some b)) (.string ⟨s.toArray⟩) v).run Try.prog w = .ok () w' ∧ MapR R w' b (N + 1) (fun y => if y = s then some x else B y) ∧ But b w w' := by
  obtain ⟨F, h1, h2⟩ := h
  obtain ⟨w', hr, h3, hg⟩ := h1.put mstr ht hn hs v
  have hb := grown_but hg
  refine ⟨w', hr, ⟨_, h3, fun y => ?_⟩, hb⟩
  by_cases hy : y = s
  · simp only [hy, if_true]
    exact ⟨fun h => (by cases h), fun x' h => by injection h with h; subst h; exact ⟨v, rfl, hR _ _ _ hb hv⟩⟩
  · simp only [hy, if_false]
    exact ⟨(h2 y).1, fun x' h => let ⟨u, h4, h5⟩ := (h2 y).2 x' h; ⟨u, h4, hR _ _ _ hb h5⟩⟩
theorem MapR.drop (h : MapR R w b N B) (ht : Try.prog.underlying t = some (.map 9 e)) {s : List UInt8} (hs : s.length ≤ maxLen) (ty : TypeId) (hR : ∀ w' v x, But b w w' → R w v x → R w' v x) :
    ∃ w', (Builtin.delete_ #[t, 9] ty #[.map (some b), .string ⟨s.toArray⟩]).run Try.prog w = .ok (.tuple #[]) w' ∧ MapR R w' b N (fun y => if y = s then none else B y) ∧ But b w w' := by
  obtain ⟨F, h1, h2⟩ := h
  obtain ⟨w', hr, h3, hg⟩ := h1.drop mstr ht hs ty
  have hb := grown_but hg
  refine ⟨w', hr, ⟨_, h3, fun y => ?_⟩, hb⟩
  by_cases hy : y = s
  · simp only [hy, if_true]
    exact ⟨fun _ => trivial, fun x' h => by cases h⟩
  · simp only [hy, if_false]
    exact ⟨(h2 y).1, fun x' h => let ⟨u, h4, h5⟩ := (h2 y).2 x' h; ⟨u, h4, hR _ _ _ hb h5⟩⟩
/-- The names. -/
theorem MapR.keys (h : MapR R w b N B) : ∃ D : DataW Value, w.ownsMap Try.prog 9 hR b N D ∧ (strKeys D).Nodup ∧ ∀ s, s ∈ strKeys D ↔ (B s).isSome = true := by
  obtain ⟨F, h1, h2⟩ := h
  obtain ⟨D, h3, h4, h5⟩ := h1.keys mstr
  refine ⟨D, h3, h4, fun s => ?_⟩
  rw [h5]
  cases hB : B s with
  | none => rw [(h2 s).1 hB]; exact Iff.rfl
  | some x =>
    obtain ⟨v, hv, _⟩ := (h2 s).2 x hB
    rw [hv]
    simp
end
end Go.Proofs.Ytcnkljbckpkgcaa
