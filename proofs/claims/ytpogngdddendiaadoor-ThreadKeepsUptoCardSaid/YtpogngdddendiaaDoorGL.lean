/- How many lists a program's words need, on trees (chapter 23); with no program in sight. No condition. -/
import Derived.Test.YtpogngdddendiaaDoorCoreL
import Derived.Test.YtpogngdddendiaaDoorCoreV
import Derived.Test.YtpogngdddendiaaDoorBut
set_option linter.unusedVariables false
set_option linter.unusedSimpArgs false
namespace Go.Proofs.YtpogngdddendiaaDoor

def addH (kd : Int) (m i : Nat) : Nat := if kd == 3 || kd == 4 || kd == 21 then i else if kd == 37 then (if i + 1 < m then i else 0) else if kd == 30 then i % 2 else 0
def topH (kd : Int) (m x : Nat) : Nat := if kd == 1 || kd == 2 || kd == 12 then max 1 x else if kd == 3 && m == 0 then 1 else x
mutual
def heightT : Tr → Nat
  | .mk kd _ _ ks => topH kd ks.length (heightTs kd ks.length 0 ks)
def heightTs : Int → Nat → Nat → List Tr → Nat
  | _, _, _, [] => 0
  | kd, m, i, t :: ts => max (heightT t + addH kd m i) (heightTs kd m (i + 1) ts)
end
theorem heightT_mk (kd n : Int) (s : List UInt8) (ks : List Tr) : heightT (.mk kd n s ks) = topH kd ks.length (heightTs kd ks.length 0 ks) := by rw [heightT]
theorem heightTs_nil (kd : Int) (m i : Nat) : heightTs kd m i [] = 0 := by rw [heightTs]
theorem heightTs_cons (kd : Int) (m i : Nat) (t : Tr) (ts : List Tr) : heightTs kd m i (t :: ts) = max (heightT t + addH kd m i) (heightTs kd m (i + 1) ts) := by rw [heightTs]
theorem heightTs_append (kd : Int) (m : Nat) : ∀ (i : Nat) (a b : List Tr), heightTs kd m i (a ++ b) = max (heightTs kd m i a) (heightTs kd m (i + a.length) b)
  | i, [], b => by rw [heightTs_nil]; simp
  | i, t :: a, b => by
    rw [List.cons_append, heightTs_cons, heightTs_cons, heightTs_append kd m (i + 1) a b, List.length_cons, show i + 1 + a.length = i + (a.length + 1) by omega]
    omega
theorem heightTs_get (kd : Int) (m : Nat) : ∀ (i : Nat) (ts : List Tr) (k : Nat) (h : k < ts.length), heightT ts[k] + addH kd m (i + k) ≤ heightTs kd m i ts
  | i, t :: ts, 0, h => by rw [heightTs_cons]; exact Nat.le_max_left _ _
  | i, t :: ts, k + 1, h => by
    have := heightTs_get kd m (i + 1) ts k (by simpa using h)
    rw [heightTs_cons]
    rw [show i + 1 + k = i + (k + 1) by omega] at this
    exact Nat.le_trans this (Nat.le_max_right _ _)
theorem addH_le (kd : Int) (m i : Nat) : addH kd m i ≤ i := by
  unfold addH
  split
  · exact Nat.le_refl _
  · split
    · split <;> omega
    · split <;> omega
mutual
theorem heightT_len : ∀ t : Tr, heightT t ≤ (flat t).length
  | .mk kd n s ks => by
    have h := heightTs_len kd ks.length 0 ks
    rw [heightT_mk, flat_size]
    unfold topH
    split
    · omega
    · split <;> omega
theorem heightTs_len : ∀ (kd : Int) (m i : Nat) (ks : List Tr), heightTs kd m i ks ≤ (flatAll ks).length + i
  | kd, m, i, [] => by rw [heightTs_nil]; exact Nat.zero_le _
  | kd, m, i, t :: ts => by
    have h1 := heightT_len t
    have h2 := heightTs_len kd m (i + 1) ts
    have h3 := addH_le kd m i
    have h4 := flat_pos t
    rw [heightTs_cons, flatAll_cons, List.length_append]
    omega
end
/-- An instruction. -/
structure Ins where
  op : Int
  a : Int
  b : Int
  s : List UInt8
def placeA (op : Int) : Bool := op == 18 || op == 19 || op == 20 || op == 22 || op == 24 || op == 26
def placeB (op : Int) : Bool := op == 30 || op == 26
def countA (op : Int) : Bool := op == 3 || op == 4 || op == 15 || op == 38 || op == 27
/-- It may be, in a code whose places are so many at most. -/
def okI (n : Nat) (x : Ins) : Bool := decide (1 ≤ x.op) && decide (x.op ≤ 41) && (!placeA x.op || decide (0 ≤ x.a) && decide (x.a ≤ n)) && (!placeB x.op || decide (0 ≤ x.b) && decide (x.b ≤ n)) && (!countA x.op || decide (0 ≤ x.a)) && decide (x.s.length ≤ 2000)
theorem okI_mono {n m : Nat} (h : n ≤ m) {x : Ins} (hx : okI n x = true) : okI m x = true := by
  unfold okI at *
  simp only [Bool.and_eq_true, Bool.or_eq_true, Bool.not_eq_true', decide_eq_true_eq] at *
  obtain ⟨⟨⟨⟨⟨h1, h2⟩, h3⟩, h4⟩, h5⟩, h6⟩ := hx
  exact ⟨⟨⟨⟨⟨h1, h2⟩, h3.imp id fun h => ⟨h.1, by omega⟩⟩, h4.imp id fun h => ⟨h.1, by omega⟩⟩, h5⟩, h6⟩
end Go.Proofs.YtpogngdddendiaaDoor

/- What the writer of code holds in memory, and what each of its methods leaves. No condition. -/
set_option linter.unusedVariables false
set_option linter.unusedSimpArgs false
namespace Go.Proofs.YtpogngdddendiaaDoor
open Go.RowKit

def insc (x : Ins) : List Value := [.int .i64 x.op, .int .i64 x.a, .int .i64 x.b, .string ⟨x.s.toArray⟩]
theorem insc_len (x : Ins) : (insc x).length = 4 := rfl
theorem insc_one (x : Ins) : ∀ u ∈ insc x, u.oneCell' = true := by
  intro u hu
  simp only [insc, List.mem_cons, List.not_mem_nil, or_false] at hu
  rcases hu with rfl | rfl | rfl | rfl <;> rfl
theorem infoIns : (Tryd.prog.info? 36).map (fun i => (i.zero, i.size, i.bytes)) = some (some (.agg #[.int .i64 0, .int .i64 0, .int .i64 0, .string ByteArray.empty]), 4, 40) := by kernel_rfl
/-- A slice of instructions, its row of one's own from base on. -/
def OwnI (w : World) (base : Nat) (v : Value) (X : List Ins) : Prop := ∃ A c, v = .slice A X.length c ∧ w.ownsRow base 36 4 (.slice A X.length c) X.length (X.flatMap insc)
def tsW : List TypeId := [72, 36]
/-- The writer in block g: its code, how high the stack is, how high it has been. -/
def WrI (w : World) (base g : Nat) (X : List Ins) (now high : Nat) : Prop := (base ≤ g ∧ now ≤ high) ∧ ∃ v, Blk w g 72 #[v, .int .i64 now, .int .i64 high] ∧ OwnI w base v X
theorem OwnI.below {w w' : World} {base : Nat} {v : Value} {X : List Ins} (h : OwnI w base v X) (hb : Below w.heap.size w w') : OwnI w' base v X :=
  let ⟨A, c, h1, h2⟩ := h
  ⟨A, c, h1, own_below h2 hb⟩
theorem WrI.below {w w' : World} {base g : Nat} {X : List Ins} {now high : Nat} (h : WrI w base g X now high) (hb : Below w.heap.size w w') : WrI w' base g X now high :=
  let ⟨h0, v, h1, h2⟩ := h
  ⟨h0, v, h1.below hb, h2.below hb⟩
/-- All but writers and instructions stand; all below base stands. -/
structure FrW (base : Nat) (w w' : World) : Prop where
  others : Others tsW w w'
  below : Below base w w'
theorem FrW.refl (base : Nat) (w : World) : FrW base w w := ⟨Others.refl _ _, Below.refl _ _⟩
theorem FrW.trans {base : Nat} {a b c : World} (h : FrW base a b) (h' : FrW base b c) : FrW base a c := ⟨h.others.trans h'.others, h.below.trans h'.below⟩
theorem FrW.of {base : Nat} {w w' : World} (h : Below w.heap.size w w') (hb : base ≤ w.heap.size) : FrW base w w' := ⟨Others.of_below h, h.mono hb⟩
theorem OwnAll.frw {w w' : World} {base b : Nat} {vs : List Value} {ls : List (List Nd)} (h : OwnAll w base vs ls) (hf : FrW b w w') : OwnAll w' base vs ls := h.others hf.others (by decide)
theorem own_frw {w w' : World} {base b : Nat} {e : TypeId} {sz n : Nat} {v : Value} {xs : List Value} (h : w.ownsRow base e sz v n xs) (hf : FrW b w w') (he : e ∉ tsW) : w'.ownsRow base e sz v n xs := own_others h hf.others he
/-- What has been written behind, how high the stack is then, and has been: no higher than now + H; all of it may be in a code of these instructions and more; sz instructions at most. -/
def Wrote (base g : Nat) (X : List Ins) (now high now' H sz : Nat) (w : World) (e : Ending) (w' : World) : Prop :=
  ∃ (Y : List Ins) (high' : Nat), e = .returned (.tuple #[]) ∧ WrI w' base g (X ++ Y) now' high' ∧ high ≤ high' ∧ high' ≤ max high (now + H) ∧ Y.length ≤ sz ∧ (∀ y ∈ Y, okI (X.length + Y.length) y = true) ∧ FrW base w w'
end Go.Proofs.YtpogngdddendiaaDoor
