/- A region that draws its order and stores, once, into one known block: all else stands, and that block is as it was or as the store leaves it. No condition. -/
import Derived.Test.YtlhpflilpdceiaaDoorScanW4
import Derived.Test.YtlhpflilpdceiaaDoorSeeW5
set_option linter.unusedVariables false
set_option linter.unusedSimpArgs false
namespace Go.Proofs.YtlhpflilpdceiaaDoor
open Go.RowKit

/-- All stands but block g, which is as it was, or as it will be. -/
structure StR (g : Nat) (t : TypeId) (ini fin : Array Value) (x x' : World) : Prop where
  but : But g x x'
  fi : Blk x g t fin → Blk x' g t fin
  st : Blk x g t ini → Blk x' g t ini ∨ Blk x' g t fin
section
variable {g : Nat} {t : TypeId} {ini fin : Array Value} {x y z : World}
theorem StR.refl (g : Nat) (t : TypeId) (ini fin : Array Value) (x : World) : StR g t ini fin x x := ⟨But.refl _ _, id, .inl⟩
theorem StR.trans (h : StR g t ini fin x y) (k : StR g t ini fin y z) : StR g t ini fin x z :=
  ⟨h.but.trans k.but, fun hf => k.fi (h.fi hf), fun hi => (h.st hi).elim (fun h1 => k.st h1) fun h1 => .inr (k.fi h1)⟩
theorem StR.of (h : Below x.heap.size x y) : StR g t ini fin x y := ⟨But.of h, fun hf => hf.below h, fun hi => .inl (hi.below h)⟩
theorem StR.drew (x : World) : StR g t ini fin x { x with drawn := x.drawn + 1 } := StR.of ((Below.refl _ _).drew)
theorem StR.cell {p : Addr} {v : Value} (h : StR g t ini fin x y) (hc : x.cell? p = some v) (hp : p.block ≠ g) : y.cell? p = some v := h.but.cell hc hp
theorem wp_region_st {P : Program} {id : Nat} {Q : Exit → Act → World → Prop} {a : Act} {w : World} {l : List Oper} (g : Nat) (t : TypeId) (ini fin : Array Value) (Ts : List (TTR (StR g t ini fin))) (hm : P.follows .mixedOrders = true) (hB : relB l.toArray = true) (hlen : Ts.length = l.length)
    (h : RelGo P l.toArray w Ts (fun a' x => Q .normal a' x) l Ts [] a) : (Code.region id l.toArray true).wp P Q a w :=
  wp_region_relR (R := StR g t ini fin) (StR.refl _ _ _ _) (fun h1 h2 => h1.trans h2) (StR.drew _) Ts hm hB hlen h
theorem wp_region_stT {P : Program} {id : Nat} {Q : Exit → Act → World → Prop} {a : Act} {w : World} {l : List Oper} (g : Nat) (t : TypeId) (ini fin : Array Value) (n : Nat) (Ts : List (TTR (StR g t ini fin))) (hm : P.follows .mixedOrders = true) (hB : relB l.toArray = true) (hT : tailB l.toArray n = true) (hlen : Ts.length = n)
    (h : RelGo P l.toArray w Ts (fun a' x => wpList P l.toArray Q (l.drop n) a' x) (l.take n) Ts [] a) : (Code.region id l.toArray true).wp P Q a w :=
  wp_region_relT (R := StR g t ini fin) (StR.refl _ _ _ _) (fun h1 h2 => h1.trans h2) (StR.drew _) n Ts hm hB hT hlen h
/-- Behind the store the block is what it leaves. -/
def finT (g : Nat) (t : TypeId) (ini fin : Array Value) : TTR (StR g t ini fin) := ⟨fun _ => True, ⟨undef, trivial⟩, fun _ x => Blk x g t fin, fun _ _ _ h hr => hr.fi h⟩
/-- An error with a place, laid behind that block. -/
def errT (g : Nat) (t : TypeId) (ini fin : Array Value) (i : Nat) (a : Addr) : TTR (StR g t ini fin) := ⟨fun _ => True, ⟨.nilIface, trivial⟩, fun v x => AtV x (g + 1) i a v, fun v _ _ h hr =>
  let ⟨b, h1, h2, h3, h4⟩ := h
  ⟨b, h1, h2, hr.but.cell h3 (by show b ≠ g; omega), hr.but.cell h4 (by show b ≠ g; omega)⟩⟩
end
theorem Blk.set4 {w : World} {g : Nat} {t : TypeId} {a b c d : Value} (h : Blk w g t #[a, b, c, d]) (a' b' c' d' : Value) : Blk ((((w.setCell ⟨g, 0, none⟩ a').setCell ⟨g, 1, none⟩ b').setCell ⟨g, 2, none⟩ c').setCell ⟨g, 3, none⟩ d') g t #[a', b', c', d'] := by
  have := (((h.set 0 a').set 1 b').set 2 c').set 3 d'
  simpa only [List.setIfInBounds_toArray, List.set_cons_succ, List.set_cons_zero] using this
theorem Blk.set3 {w : World} {g : Nat} {t : TypeId} {a b c : Value} (h : Blk w g t #[a, b, c]) (a' b' c' : Value) : Blk (((w.setCell ⟨g, 0, none⟩ a').setCell ⟨g, 1, none⟩ b').setCell ⟨g, 2, none⟩ c') g t #[a', b', c'] := by
  have := ((h.set 0 a').set 1 b').set 2 c'
  simpa only [List.setIfInBounds_toArray, List.set_cons_succ, List.set_cons_zero] using this
theorem But.set4 (g : Nat) (x : World) (a b c d : Value) : But g x ((((x.setCell ⟨g, 0, none⟩ a).setCell ⟨g, 1, none⟩ b).setCell ⟨g, 2, none⟩ c).setCell ⟨g, 3, none⟩ d) :=
  ((But.set x 0 a).trans (But.set _ 1 b)).trans ((But.set _ 2 c).trans (But.set _ 3 d))
theorem But.set3 (g : Nat) (x : World) (a b c : Value) : But g x (((x.setCell ⟨g, 0, none⟩ a).setCell ⟨g, 1, none⟩ b).setCell ⟨g, 2, none⟩ c) :=
  ((But.set x 0 a).trans (But.set _ 1 b)).trans (But.set _ 2 c)
theorem StR.put4 {g : Nat} {t : TypeId} {ini : Array Value} {x : World} {p q r s : Value} (h : Blk x g t #[p, q, r, s]) (a b c d : Value) : StR g t ini #[a, b, c, d] x ((((x.setCell ⟨g, 0, none⟩ a).setCell ⟨g, 1, none⟩ b).setCell ⟨g, 2, none⟩ c).setCell ⟨g, 3, none⟩ d) :=
  ⟨But.set4 _ _ _ _ _ _, fun _ => h.set4 _ _ _ _, fun _ => .inr (h.set4 _ _ _ _)⟩
theorem StR.put3 {g : Nat} {t : TypeId} {ini : Array Value} {x : World} {p q r : Value} (h : Blk x g t #[p, q, r]) (a b c : Value) : StR g t ini #[a, b, c] x (((x.setCell ⟨g, 0, none⟩ a).setCell ⟨g, 1, none⟩ b).setCell ⟨g, 2, none⟩ c) :=
  ⟨But.set3 _ _ _ _ _, fun _ => h.set3 _ _ _, fun _ => .inr (h.set3 _ _ _)⟩
theorem StR.put1 {g : Nat} {t : TypeId} {ini fin : Array Value} (x : World) (k : Nat) (u : Value) (hi : ini.setIfInBounds k u = fin) (hf : fin.setIfInBounds k u = fin) : StR g t ini fin x (x.setCell ⟨g, k, none⟩ u) :=
  ⟨But.set x k u, fun h => by have := h.set k u; rwa [hf] at this, fun h => .inr (by have := h.set k u; rwa [hi] at this)⟩
theorem StR.to1 {g : Nat} {t : TypeId} {ini fin : Array Value} {x : World} (k : Nat) (u : Value) (hi : ini.setIfInBounds k u = fin) (hf : fin.setIfInBounds k u = fin) (h : Blk x g t ini ∨ Blk x g t fin) : Blk (x.setCell ⟨g, k, none⟩ u) g t fin := by
  rcases h with h | h
  · have := h.set k u; rwa [hi] at this
  · have := h.set k u; rwa [hf] at this
theorem StR.has4 {g : Nat} {t : TypeId} {x y : World} {a b c d p q r s : Value} (h : StR g t #[p, q, r, s] #[a, b, c, d] x y) (hi : Blk x g t #[p, q, r, s]) : ∃ e f u v, Blk y g t #[e, f, u, v] := (h.st hi).elim (fun h => ⟨_, _, _, _, h⟩) fun h => ⟨_, _, _, _, h⟩
theorem StR.has3 {g : Nat} {t : TypeId} {x y : World} {a b c p q r : Value} (h : StR g t #[p, q, r] #[a, b, c] x y) (hi : Blk x g t #[p, q, r]) : ∃ e f u, Blk y g t #[e, f, u] := (h.st hi).elim (fun h => ⟨_, _, _, h⟩) fun h => ⟨_, _, _, h⟩

/-- An error with a place: which of the listed ones, and where. -/
def AtE (w : World) (Ls : List Addr) (v : Value) (k i : Nat) : Prop := ∃ (j : Nat) (a : Addr) (g : Nat), k = j + 1 ∧ Ls[j]? = some a ∧ v = .iface 127 (.pointer (some ⟨g, 0, none⟩)) ∧ w.cell? ⟨g, 0, none⟩ = some (.int .i64 i) ∧ w.cell? ⟨g, 1, none⟩ = some (sentV a)
theorem AtE.below {w w' : World} {Ls : List Addr} {v : Value} {k i : Nat} (h : AtE w Ls v k i) (hb : Below w.heap.size w w') : AtE w' Ls v k i :=
  let ⟨j, a, g, h1, h2, h3, h4, h5⟩ := h
  ⟨j, a, g, h1, h2, h3, cell_keep hb h4, cell_keep hb h5⟩
theorem AtE.but {w w' : World} {Ls : List Addr} {v : Value} {k i B : Nat} {q : Option Addr} (h : AtE w Ls v k i) (hb : But B w w') (hB : w.cell? ⟨B, 0, none⟩ = some (.pointer q)) : AtE w' Ls v k i := by
  obtain ⟨j, a, g, h1, h2, h3, h4, h5⟩ := h
  have hne : g ≠ B := fun e => by
    rw [e, hB] at h4
    injection h4 with h4
    cases h4
  exact ⟨j, a, g, h1, h2, h3, hb.cell h4 hne, hb.cell h5 hne⟩
theorem AtE.err {w : World} {Ls : List Addr} {v : Value} {k i : Nat} (h : AtE w Ls v k i) : ErrV w Ls v (100 + k) [(i : Int)] := by
  obtain ⟨j, a, g, rfl, h2, h3, h4, h5⟩ := h
  exact .inr (.inr ⟨j, a, g, i, h2, h3, h4, h5, by omega, rfl⟩)
theorem AtE.of {w : World} {Ls : List Addr} {v : Value} {B i j : Nat} {a : Addr} (h : AtV w B i a v) (hj : Ls[j]? = some a) : AtE w Ls v (j + 1) i :=
  let ⟨g, h1, _, h3, h4⟩ := h
  ⟨j, a, g, rfl, hj, h1, h3, h4⟩
/-- A part and how many bytes it takes, or an error. -/
def PartRet (r : PartR) (Ls : List Addr) (w : World) (e : Ending) (w' : World) : Prop := match r with
  | .err k a => ∃ v, e = .returned (.tuple #[.agg #[.int .i64 0, .int .i64 0, .int .i64 0, .string { data := #[] }], .int .i64 0, v]) ∧ AtE w' Ls v k a ∧ Below w.heap.size w w'
  | .ok p n => e = .returned (.tuple #[.agg #[.int .i64 p.kind, .int .i64 p.pos, .int .i64 p.n, .string ⟨p.s.toArray⟩], .int .i64 n, .nilIface]) ∧ Below w.heap.size w w'
theorem nameOK_run (t : List UInt8) (h : 0 < (runL t).length) : nameOK (runL t) = decide ((runL t).length ≤ 20) := by
  cases t with
  | nil => simp [runL] at h
  | cons c t =>
    by_cases hb : nameB c = true
    · have e : runL (c :: t) = c :: t.takeWhile nameG := by rw [runL, if_pos hb]
      rw [e, nameOK, hb]
      have : (c :: t.takeWhile nameG).all nameG = true := by
        rw [List.all_cons, Bool.and_eq_true]
        refine ⟨by unfold nameG; rw [hb]; rfl, ?_⟩
        rw [List.all_eq_true]
        intro x hx
        have := List.all_takeWhile (p := nameG) (l := t)
        exact List.all_eq_true.1 this x hx
      rw [this]
      simp
    · have e : runL (c :: t) = [] := by rw [runL, if_neg hb]
      rw [e] at h
      cases h
/-- What a dollar is with no name behind it. -/
def dolTail (i : Nat) (t : List UInt8) : PartR := match t with
  | [] => .ok ⟨1, i, 0, [36]⟩ 1
  | d :: _ => if d = 42 then .ok ⟨2, i, 0, [42]⟩ 2
    else if 49 ≤ d ∧ d ≤ 57 then .ok ⟨4, i, d.toNat - 48, []⟩ 2
    else .ok ⟨1, i, 0, [36]⟩ 1
theorem dollarL_tail (i : Nat) (t : List UInt8) : dollarL i t = if 0 < (runL t).length then (if 20 < (runL t).length then .err 6 i else .ok ⟨2, i, 0, runL t⟩ (1 + (runL t).length)) else dolTail i t := by
  unfold dollarL
  cases t <;> rfl
theorem dolTail_star {i : Nat} {t : List UInt8} {d : Nat} (hd : d = (t.head?.map UInt8.toNat).getD 0) (h42 : d = 42) : dolTail i t = .ok ⟨2, i, 0, [42]⟩ 2 := by
  unfold dolTail
  cases t with
  | nil => simp at hd; omega
  | cons c t =>
    simp only [List.head?_cons, Option.map_some, Option.getD_some] at hd
    simp only
    rw [if_pos (by rw [← UInt8.toNat_inj, ← hd, h42]; rfl)]
theorem dolTail_dig {i : Nat} {t : List UInt8} {d : Nat} (hd : d = (t.head?.map UInt8.toNat).getD 0) (h42 : d ≠ 42) (hdg : 49 ≤ d ∧ d ≤ 57) : dolTail i t = .ok ⟨4, i, d - 48, []⟩ 2 := by
  unfold dolTail
  cases t with
  | nil => simp at hd; omega
  | cons c t =>
    simp only [List.head?_cons, Option.map_some, Option.getD_some] at hd
    simp only
    rw [if_neg (fun e => h42 (by rw [hd, e]; rfl)), if_pos ⟨UInt8.le_iff_toNat_le.2 (by rw [← hd]; exact hdg.1), UInt8.le_iff_toNat_le.2 (by rw [← hd]; exact hdg.2)⟩, hd]
theorem dolTail_else {i : Nat} {t : List UInt8} {d : Nat} (hd : d = (t.head?.map UInt8.toNat).getD 0) (h42 : d ≠ 42) (hdg : ¬ (49 ≤ d ∧ d ≤ 57)) : dolTail i t = .ok ⟨1, i, 0, [36]⟩ 1 := by
  unfold dolTail
  cases t with
  | nil => rfl
  | cons c t =>
    simp only [List.head?_cons, Option.map_some, Option.getD_some] at hd
    simp only
    rw [if_neg (fun e => h42 (by rw [hd, e]; rfl)), if_neg (fun e => hdg ⟨by rw [hd]; exact UInt8.le_iff_toNat_le.1 e.1, by rw [hd]; exact UInt8.le_iff_toNat_le.1 e.2⟩)]
end Go.Proofs.YtlhpflilpdceiaaDoor
