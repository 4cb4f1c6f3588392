/- A region that draws its order, whose operations read, and whose calls change nothing that was there: one walk in the order of the text serves every order. No condition. -/
import Derived.Test.YtpogngdddendiaaDoorBase
import Derived.Deep.Quiet
import Derived.Deep.QuietTactic
import Derived.BigQuiet
import Derived.Test.YtpogngdddendiaaDoorProg
import Derived.WalkKit
import Derived.WalkSpells
import Derived.WalkLawsBesides
import Derived.Lib.Hide
import Derived.Deep.LoopGhost
import Derived.Deep.DeepFit
import Derived.Lib.MinMax
set_option linter.unusedVariables false
namespace Go.Proofs.YtpogngdddendiaaDoor
open Go.RowKit

/-- A world in which all that was there in w0 stands as it stood. -/
structure Later (w0 : World) where
  val : World
  below : Below w0.heap.size w0 val

def Later.start (w0 : World) : Later w0 := ⟨{ w0 with drawn := w0.drawn + 1 }, (Below.refl _ _).drew⟩

instance (w0 : World) : Nonempty (Later w0) := ⟨Later.start w0⟩

theorem Later.cell {w0 : World} {p : Addr} {v : Value} (h : w0.cell? p = some v) : ∀ x : Later w0, x.val.cell? p = some v := fun x => cell_keep x.below h

theorem wp_region_later {P : Program} {id : Nat} {Q : Exit → Act → World → Prop} {a : Act} {w : World} {l : List Oper} (hm : P.follows .mixedOrders = true) (hB : Region.lexB .any l.toArray = true)
    (h : wpQuiet P l.toArray (fun w' => ∃ x : Later w, w' = x.val) (fun a' => ∀ w', (∃ x : Later w, w' = x.val) → Q .normal a' w') l a) : (Code.region id l.toArray true).wp P Q a w :=
  wp_region_quiet (C := fun w' => ∃ x : Later w, w' = x.val) hm hB ⟨Later.start w, rfl⟩ (by simpa using h)

/-- A callee that hands back v and changes nothing that was there. -/
theorem Calls.later {P : Program} {f : FuncId} {args : Array Value} {w0 : World} {x : Later w0} {v : Value} (h : Calls P f args x.val (Ret x.val v)) :
    Calls P f args x.val fun e w'' => e = .returned v ∧ ∃ y : Later w0, w'' = y.val :=
  h.mono fun _ w' ⟨he, hb⟩ => ⟨he, ⟨w', x.below.trans (hb.mono x.below.size)⟩, rfl⟩
/-- .. and one that leaves the world as it is. -/
theorem Calls.later_same {P : Program} {f : FuncId} {args : Array Value} {w0 : World} {x : Later w0} {v : Value} (h : Calls P f args x.val fun e w' => e = .returned v ∧ w' = x.val) :
    Calls P f args x.val fun e w'' => e = .returned v ∧ ∃ y : Later w0, w'' = y.val :=
  h.mono fun _ w' ⟨he, hb⟩ => ⟨he, x, hb⟩
end Go.Proofs.YtpogngdddendiaaDoor

/- Nodes of a program in memory: how a list of nodes, and a list of such lists, reads. No condition. -/
set_option linter.unusedVariables false
set_option linter.unusedSimpArgs false
namespace Go.Proofs.YtpogngdddendiaaDoor
open Go.RowKit

structure Nd where
  kind : Int
  n : Int
  k : Int
  size : Int
  s : List UInt8

def ndc (x : Nd) : List Value := [.int .i64 x.kind, .int .i64 x.n, .int .i64 x.k, .int .i64 x.size, .string ⟨x.s.toArray⟩]
theorem ndc_len (x : Nd) : (ndc x).length = 5 := rfl
theorem ndc_one (x : Nd) : ∀ u ∈ ndc x, u.oneCell' = true := by
  intro u hu
  simp only [ndc, List.mem_cons, List.not_mem_nil, or_false] at hu
  rcases hu with rfl | rfl | rfl | rfl | rfl <;> rfl

/-- A slice value that reads as a list of nodes. -/
def SlRd (w : World) (v : Value) (L : List Nd) : Prop :=
  ∃ A c, v = .slice A L.length c ∧ RdL w 5 ndc A L ∧ L.length ≤ c ∧ c ≤ maxLen ∧ (A = none → c = 0) ∧ True
theorem SlRd.below {w w' : World} {v : Value} {L : List Nd} (h : SlRd w v L) (hb : Below w.heap.size w w') : SlRd w' v L :=
  let ⟨A, c, h1, h2, h3, h4, h5, h6⟩ := h
  ⟨A, c, h1, h2.below hb, h3, h4, h5, h6⟩

def one1 (v : Value) : List Value := [v]
theorem one1_len (v : Value) : (one1 v).length = 1 := rfl
theorem one1_flat (l : List Value) : l.flatMap one1 = l := by
  induction l with
  | nil => rfl
  | cons x l ih => rw [List.flatMap_cons, ih]; rfl

/-- The values of a row read as lists of nodes. -/
def AllRd (w : World) (vs : List Value) (ls : List (List Nd)) : Prop := vs.length = ls.length ∧ ∀ i (h : i < ls.length) v, vs[i]? = some v → SlRd w v ls[i]
theorem AllRd.below {w w' : World} {vs : List Value} {ls : List (List Nd)} (h : AllRd w vs ls) (hb : Below w.heap.size w w') : AllRd w' vs ls :=
  ⟨h.1, fun i hi v hv => (h.2 i hi v hv).below hb⟩
theorem AllRd.snoc {w : World} {vs : List Value} {ls : List (List Nd)} (h : AllRd w vs ls) {v : Value} {L : List Nd} (hv : SlRd w v L) : AllRd w (vs ++ [v]) (ls ++ [L]) := by
  refine ⟨by simp [h.1], fun i hi u hu => ?_⟩
  by_cases hlt : i < ls.length
  · rw [List.getElem?_append_left (by rw [h.1]; exact hlt)] at hu
    rw [List.getElem_append_left hlt]
    exact h.2 i hlt u hu
  · have he : i = ls.length := by simp at hi; omega
    subst he
    rw [List.getElem?_append_right (by rw [h.1]; exact Nat.le_refl _), h.1] at hu
    simp at hu
    subst hu
    simpa using hv
theorem AllRd.append {w : World} {vs us : List Value} {ls ms : List (List Nd)} (h : AllRd w vs ls) (h' : AllRd w us ms) : AllRd w (vs ++ us) (ls ++ ms) := by
  refine ⟨by simp [h.1, h'.1], fun i hi u hu => ?_⟩
  by_cases hlt : i < ls.length
  · rw [List.getElem?_append_left (by rw [h.1]; exact hlt)] at hu
    rw [List.getElem_append_left hlt]
    exact h.2 i hlt u hu
  · rw [List.getElem?_append_right (by rw [h.1]; omega), h.1] at hu
    rw [List.getElem_append_right (by omega)]
    exact h'.2 (i - ls.length) (by simp at hi; omega) u hu
theorem AllRd.nil (w : World) : AllRd w [] [] := ⟨rfl, fun i h => absurd h (Nat.not_lt_zero _)⟩

/-- From an address on: a row of slice values that read as lists of nodes. -/
def KdRd (w : World) (A : Option Addr) (ls : List (List Nd)) : Prop := ∃ vs, RdL w 1 one1 A vs ∧ AllRd w vs ls
theorem KdRd.below {w w' : World} {A : Option Addr} {ls : List (List Nd)} (h : KdRd w A ls) (hb : Below w.heap.size w w') : KdRd w' A ls :=
  let ⟨vs, h1, h2⟩ := h
  ⟨vs, h1.below hb, h2.below hb⟩
theorem KdRd.nil (w : World) (A : Option Addr) : KdRd w A [] := ⟨[], RdL.nil _ _ _ _, AllRd.nil _⟩
theorem KdRd.at_ {w : World} {A : Option Addr} {ls : List (List Nd)} (h : KdRd w A ls) {k : Nat} (hk : k < ls.length) :
    ∃ b o v, A = some ⟨b, o, none⟩ ∧ b < w.heap.size ∧ w.cell? ⟨b, o + k, none⟩ = some v ∧ SlRd w v ls[k] := by
  obtain ⟨vs, h1, h2, h3⟩ := h
  obtain ⟨b, o, hA, hb, hc⟩ := h1 k (by omega)
  have := hc 0 _ rfl
  rw [Nat.mul_one, Nat.add_zero] at this
  exact ⟨b, o, vs[k], hA, hb, this, h3 k hk _ (List.getElem?_eq_getElem _)⟩

/-- It returns a slice of its own that holds these nodes, and has changed nothing that was there. -/
def NodesRet (L : List Nd) (w : World) (e : Ending) (w' : World) : Prop :=
  ∃ A c, e = .returned (.slice A L.length c) ∧ w'.ownsRow w.heap.size 98 5 (.slice A L.length c) L.length (L.flatMap ndc) ∧ Below w.heap.size w w'

theorem own_spot {w : World} {base : Nat} {e : TypeId} {sz n m c : Nat} {A : Option Addr} {xs : List Value} (h : w.ownsRow base e sz (.slice A m c) n xs) : ∀ ad, A = some ad → ad.spot = none := by
  intro ad hA
  subst hA
  rcases h.2 with ⟨h, _⟩ | ⟨g, cap, cur, h, _⟩
  · injection h with h _ _; cases h
  · injection h with h _ _
    injection h with h
    rw [h]
theorem SlRd.of_own {w : World} {base : Nat} {v : Value} {n : Nat} {L : List Nd} (h : w.ownsRow base 98 5 v n (L.flatMap ndc)) (hn : n = L.length) : SlRd w v L := by
  obtain ⟨A, c, rfl, h1, h2, h3, h4⟩ := RdL.of_own ndc_len h hn
  subst hn
  exact ⟨A, c, rfl, h3, h1, h2, h4, trivial⟩
theorem NodesRet.rd {L : List Nd} {w : World} {e : Ending} {w' : World} (h : NodesRet L w e w') : ∃ v, e = .returned v ∧ SlRd w' v L ∧ Below w.heap.size w w' :=
  let ⟨A, c, h1, h2, h3⟩ := h
  ⟨_, h1, SlRd.of_own h2 rfl, h3⟩

/-- The values of a row are slices of the call's own that hold these nodes. -/
def OwnAll (w : World) (base : Nat) (vs : List Value) (ls : List (List Nd)) : Prop := vs.length = ls.length ∧ ∀ i (h : i < ls.length) v, vs[i]? = some v → w.ownsRow base 98 5 v ls[i].length (ls[i].flatMap ndc)
theorem OwnAll.rd {w : World} {base : Nat} {vs : List Value} {ls : List (List Nd)} (h : OwnAll w base vs ls) : AllRd w vs ls :=
  ⟨h.1, fun i hi v hv => SlRd.of_own (h.2 i hi v hv) rfl⟩
theorem OwnAll.below {w w' : World} {base : Nat} {vs : List Value} {ls : List (List Nd)} (h : OwnAll w base vs ls) (hb : Below w.heap.size w w') : OwnAll w' base vs ls :=
  ⟨h.1, fun i hi v hv => own_below (h.2 i hi v hv) hb⟩
theorem OwnAll.others {w w' : World} {base : Nat} {vs : List Value} {ls : List (List Nd)} {ts : List TypeId} (h : OwnAll w base vs ls) (ho : Others ts w w') (ht : 98 ∉ ts) : OwnAll w' base vs ls :=
  ⟨h.1, fun i hi v hv => own_others (h.2 i hi v hv) ho ht⟩
theorem OwnAll.mono {w : World} {base base' : Nat} {vs : List Value} {ls : List (List Nd)} (h : OwnAll w base vs ls) (hb : base' ≤ base) : OwnAll w base' vs ls :=
  ⟨h.1, fun i hi v hv => own_mono (h.2 i hi v hv) hb⟩
theorem OwnAll.nil (w : World) (base : Nat) : OwnAll w base [] [] := ⟨rfl, fun i h => absurd h (Nat.not_lt_zero _)⟩
theorem OwnAll.append {w : World} {base : Nat} {vs us : List Value} {ls ms : List (List Nd)} (h : OwnAll w base vs ls) (h' : OwnAll w base us ms) : OwnAll w base (vs ++ us) (ls ++ ms) := by
  refine ⟨by simp [h.1, h'.1], fun i hi u hu => ?_⟩
  by_cases hlt : i < ls.length
  · rw [List.getElem?_append_left (by rw [h.1]; exact hlt)] at hu
    rw [List.getElem_append_left hlt]
    exact h.2 i hlt u hu
  · rw [List.getElem?_append_right (by rw [h.1]; omega), h.1] at hu
    rw [List.getElem_append_right (by omega)]
    exact h'.2 (i - ls.length) (by simp at hi; omega) u hu
theorem OwnAll.one {w : World} {base : Nat} {v : Value} {L : List Nd} (h : w.ownsRow base 98 5 v L.length (L.flatMap ndc)) : OwnAll w base [v] [L] :=
  ⟨rfl, fun i hi u hu => by
    have : i = 0 := by simp at hi; omega
    subst this
    simp at hu
    subst hu
    exact h⟩

/-- It returns a slice of slices, all of its own, that hold these lists, and has changed nothing that was there. -/
def KidsRet (ls : List (List Nd)) (w : World) (e : Ending) (w' : World) : Prop :=
  ∃ A c vs, e = .returned (.slice A ls.length c) ∧ w'.ownsRow w.heap.size 22 1 (.slice A ls.length c) ls.length vs ∧ OwnAll w' w.heap.size vs ls ∧ Below w.heap.size w w'

theorem KdRd.of_own {w : World} {base base' n c : Nat} {A : Option Addr} {vs : List Value} {ls : List (List Nd)} (h : w.ownsRow base 22 1 (.slice A n c) n vs) (hn : n = ls.length) (ho : OwnAll w base' vs ls) : KdRd w A ls := by
  have h1 : w.ownsRow base 22 1 (.slice A n c) n (vs.flatMap one1) := by rw [one1_flat]; exact h
  obtain ⟨A', c', he, _, _, hrd, _⟩ := RdL.of_own one1_len h1 (by rw [hn, ho.1])
  injection he with he1 _ _
  subst he1
  exact ⟨vs, hrd, ho.rd⟩

theorem rd_one {w : World} {base n c : Nat} {A : Option Addr} {vs : List Value} (h : w.ownsRow base 22 1 (.slice A n c) n vs) (hn : n = vs.length) : RdL w 1 one1 A vs ∧ (A = none → c = 0) ∧ ∀ ad, A = some ad → ad.spot = none := by
  have h1 : w.ownsRow base 22 1 (.slice A n c) n (vs.flatMap one1) := by rw [one1_flat]; exact h
  obtain ⟨A', c', he, _, _, hrd, h0⟩ := RdL.of_own one1_len h1 hn
  injection he with he1 _ he3
  subst he1 he3
  exact ⟨hrd, h0, own_spot h⟩
/-- Every value of a row of slices takes one cell. -/
theorem OwnAll.cells {w : World} {base : Nat} {vs : List Value} {ls : List (List Nd)} (h : OwnAll w base vs ls) : ∀ v ∈ vs, v.oneCell' = true := by
  intro v hv
  obtain ⟨i, hi, rfl⟩ := List.mem_iff_getElem.1 hv
  obtain ⟨A, c, he, _⟩ := own_form (h.2 i (by rw [← h.1]; exact hi) _ (List.getElem?_eq_getElem hi))
  rw [he]; rfl
theorem addr_drop {b o n sz m : Nat} : ∀ b' o', (some ⟨b, o, none⟩ : Option Addr) = some ⟨b', o', none⟩ → n < m → (some ⟨b, o + n * sz, none⟩ : Option Addr) = some ⟨b', o' + n * sz, none⟩ := by
  intro b' o' he _
  simp only [Option.some.injEq, Addr.mk.injEq, and_true] at he
  rw [he.1, he.2]
/-- A new row reads as it was laid, also later. -/
theorem box_cell {w w1 : World} {cs : Array Value} {T : TypeId} (hb : Below (w.alloc (.cells cs T)).heap.size (w.alloc (.cells cs T)) w1) (i : Nat) (hi : i < cs.size) : w1.cell? ⟨w.heap.size, i, none⟩ = cs[i]? := by
  have h : (w.alloc (.cells cs T)).cell? ⟨w.heap.size, i, none⟩ = some cs[i] := by
    rw [cell_of_row _ _ _ _ _ _ (heap_alloc_new w _), Array.getElem?_eq_getElem hi]
  rw [cell_keep hb h, Array.getElem?_eq_getElem hi]
theorem infoNode : (Tryd.prog.info? 98).map (fun i => (i.zero, i.size, i.bytes)) = some (some (.agg #[.int .i64 0, .int .i64 0, .int .i64 0, .int .i64 0, .string ByteArray.empty]), 5, 48) := by kernel_rfl
theorem infoNodes : (Tryd.prog.info? 22).map (fun i => (i.zero, i.size, i.bytes)) = some (some (.slice none 0 0), 1, 24) := by kernel_rfl
end Go.Proofs.YtpogngdddendiaaDoor
