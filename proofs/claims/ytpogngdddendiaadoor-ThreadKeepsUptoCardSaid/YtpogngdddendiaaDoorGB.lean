/- The walk over (*thread.pass).end: where jumps end that are on no cycle. A bound on the length. -/
import Derived.Test.YtpogngdddendiaaDoorGP
import Derived.Test.YtpogngdddendiaaDoorGL
import Derived.Test.YtpogngdddendiaaDoorGE
import Derived.Test.YtpogngdddendiaaDoorBut
import Derived.Test.YtpogngdddendiaaDoorGF
import Derived.Test.YtpogngdddendiaaDoorGA
set_option linter.unusedVariables false
set_option linter.unusedSimpArgs false
namespace Go.Proofs.YtpogngdddendiaaDoor
open Go.RowKit

def boolc (b : Bool) : List Value := [.bool b]
theorem at_some {X : List Ins} {i : Nat} (h : i < X.length) : ∃ x, X[i]? = some x := ⟨_, List.getElem?_eq_getElem h⟩
theorem getElem_of? {α : Type} {l : List α} {i : Nat} (h : i < l.length) {x : α} (e : l[i]? = some x) : l[i] = x := by
  rw [List.getElem?_eq_getElem h] at e
  exact Option.some.inj e
set_option maxRecDepth 100000 in
set_option maxHeartbeats 2000000 in
theorem tend_any (g gl gc n0 cl cc k i j : Nat) (X : List Ins) (Cl : List Bool) (st : Int) (w : World) (hP : Blk w g 78 #[.slice (some ⟨gl, 0, none⟩) X.length cl, .int .i64 st, .slice (some ⟨gc, 0, none⟩) X.length cc]) (hX : RdL w 4 insc (some ⟨gl, 0, none⟩) X) (hC : RdL w 1 boolc (some ⟨gc, 0, none⟩) Cl) (hl : Cl.length = X.length) (hp : PR X) (hn : X.length ≤ 9000) (hi : i < X.length) (hE : EndN X (isS Cl) k i j) :
    Calls Tryd.prog 98 #[.pointer (some ⟨g, 0, none⟩), .int .i64 i] w (Ret w (.int .i64 j)) := by
  obtain ⟨m, hm⟩ : ∃ m, X.length = m := ⟨_, rfl⟩
  have HM := Lib.hid hm
  have HL := Lib.hid hl
  have HP := Lib.hid hp
  have HX := Lib.hid hX
  have HC := Lib.hid hC
  have HE := Lib.hid hE
  have HI := Lib.hid hi
  rw [hm] at hP hn
  have HB := Lib.hid hP
  clear hm hl hp hX hC hE hi hP
  go_enter Tryd.func98, Tryd.ntmps98
  go_wp2_with fail
  go_loopw [1] (fun v wr => ∃ (i k : Nat), Hid (i < X.length) ∧ v = .int .i64 i ∧ Hid (EndN X (isS Cl) k i j) ∧ Hid (Below w.heap.size w wr)) (fun v _ => endK X (isS Cl) (intOf v).toNat)
  case atStart => exact ⟨i, k, HI, rfl, HE, Lib.hid (Below.refl _ _)⟩
  case round =>
    clear HE HI
    obtain ⟨i, k, HI, rfl, HE, HR⟩ := hrel
    have hkL := HI.out
    obtain ⟨x, hx⟩ : ∃ x, x = X[i] := ⟨_, rfl⟩
    have hxi : X[i]? = some x := by rw [hx]; exact List.getElem?_eq_getElem hkL
    have hpl := (HP.out x (List.mem_of_getElem? hxi)).1
    have hcl : i < Cl.length := by rw [HL.out]; exact hkL
    obtain ⟨cb, hcb⟩ : ∃ cb, cb = Cl[i] := ⟨_, rfl⟩
    have hcbi : Cl[i]? = some cb := by rw [hcb]; exact List.getElem?_eq_getElem hcl
    have z0 := (HB.out.below HR.out).cell 0
    have z2 := (HB.out.below HR.out).cell 2
    simp only [List.getElem?_toArray, List.getElem?_cons_zero, List.getElem?_cons_succ] at z0 z2
    have hcell := ((HX.out.below HR.out).at_ hkL).2
    rw [← hx] at hcell
    have c0 := hcell 0 _ rfl
    have c1 := hcell 1 _ rfl
    have d0 := ((HC.out.below HR.out).at_ hcl).2 0 _ rfl
    rw [← hcb] at d0
    simp only [Nat.add_zero, Nat.zero_add, Nat.mul_one] at c0 c1 d0
    have hlt : i < m := by rw [← HM.out]; exact hkL
    have HXI := Lib.hid hxi
    have HCB := Lib.hid hcbi
    have HPL := Lib.hid hpl
    clear hcell hx hkL hcb hcl hxi hcbi hpl
    by_cases h18 : x.op = 18
    · have e18 : (x.op == 18) = true := by simp [h18]
      have HA := Lib.hid (HPL.out (place18 h18))
      have HJ := Lib.hid (show jmp X i = some x.a.toNat by rw [jmp_of HXI.out, if_pos h18])
      rw [h18] at c0
      obtain ⟨a, ha⟩ : ∃ a : Nat, x.a = a := ⟨x.a.toNat, by have := HA.out; omega⟩
      rw [ha] at c1
      have HJ2 := Lib.hid (show jmp X i = some a by rw [HJ.out, ha]; rfl)
      have HA2 := Lib.hid (show a < X.length by have := HA.out; omega)
      clear ha HA HJ h18 e18
      cases cb with
      | true =>
        have HN := Lib.hid (show i = j by
          cases HE.out with
          | stop _ => rfl
          | go _ h2 _ => exact absurd HCB.out h2)
        clear HE
        obtain rfl := HN.out
        clear HN
        go_wp2_with fail
        go_ret
        exact ⟨rfl, HR.out⟩
      | false =>
        obtain ⟨k', rfl, HE2⟩ : ∃ k', k = k' + 1 ∧ Hid (EndN X (isS Cl) k' a j) := by
          cases HE.out with
          | stop hs =>
            rcases hs with hs | hs
            · rw [HJ2.out] at hs; cases hs
            · have h3 := HCB.out; unfold isS at hs; rw [h3] at hs; cases hs
          | @go k' _ b _ h1 _ h3 =>
            rw [HJ2.out] at h1
            injection h1 with h1
            subst h1
            exact ⟨k', rfl, Lib.hid h3⟩
        have HK1 := Lib.hid (endK_eq HE.out)
        have HK2 := Lib.hid (endK_eq HE2.out)
        clear HE
        go_wp2_with fail
        go_roundw
        case rel => exact ⟨a, k', HA2, rfl, HE2, HR⟩
        case measure =>
          show endK X (isS Cl) (intOf (.int .i64 a)).toNat < endK X (isS Cl) (intOf (.int .i64 i)).toNat
          simp only [intOf, Int.toNat_natCast]
          rw [HK1.out, HK2.out]
          omega
    · have e18 : (x.op == 18) = false := by simp [h18]
      have HN := Lib.hid (show i = j by
        cases HE.out with
        | stop _ => rfl
        | go h1 _ _ => rw [jmp_of HXI.out, if_neg h18] at h1; cases h1)
      clear HE h18
      obtain rfl := HN.out
      clear HN
      go_wp2_with fail
      go_ret
      exact ⟨rfl, HR.out⟩
end Go.Proofs.YtpogngdddendiaaDoor

/- The words of memory of chapter 24: a pass, a row of bools, a row of numbers. No condition. -/
set_option linter.unusedVariables false
set_option linter.unusedSimpArgs false
namespace Go.Proofs.YtpogngdddendiaaDoor
open Go.RowKit

def intN (n : Nat) : List Value := [.int .i64 (n : Int)]
theorem flat1v {α : Type} (f : α → Value) : ∀ l : List α, (l.flatMap fun x => [f x]) = l.map f
  | [] => rfl
  | x :: l => by rw [List.flatMap_cons, flat1v f l]; rfl
def rowB (w : World) (base g n : Nat) (l : List Bool) : Prop := w.ownsRow base 4 1 (.slice (some ⟨g, 0, none⟩) n n) n (l.flatMap boolc)
def rowN (w : World) (base g n : Nat) (l : List Nat) : Prop := w.ownsRow base 3 1 (.slice (some ⟨g, 0, none⟩) n n) n (l.flatMap intN)
theorem infoBoolT : (Tryd.prog.info? 4).map (fun i => (i.zero, i.size, i.bytes)) = some (some (.bool false), 1, 1) := by kernel_rfl
theorem own_blk {w : World} {base g c n sz : Nat} {e : TypeId} {xs : List Value} (h : w.ownsRow base e sz (.slice (some ⟨g, 0, none⟩) n c) n xs) : base ≤ g ∧ ∃ cur, Blk w g e cur := by
  rcases h.2 with ⟨h', _⟩ | ⟨g', cap', cur, h', hb, hg, _⟩
  · simp at h'
  · simp only [Value.slice.injEq, Option.some.injEq, Addr.mk.injEq, and_true, true_and] at h'
    obtain ⟨rfl, rfl⟩ := h'
    exact ⟨hb, cur, hg⟩
section
variable {w w' : World} {base g n c : Nat}
theorem own_len1 {α : Type} {e : TypeId} {v : Value} {enc : α → List Value} (he : ∀ x, (enc x).length = 1) {l : List α} (h : w.ownsRow base e 1 v n (l.flatMap enc)) : l.length = n := by
  have := h.1
  rw [flat_len he] at this
  omega
theorem rowB.len {l : List Bool} (h : rowB w base g n l) : l.length = n := own_len1 (fun _ => rfl) h
theorem rowN.len {l : List Nat} (h : rowN w base g n l) : l.length = n := own_len1 (fun _ => rfl) h
theorem rowB.rd {l : List Bool} (h : rowB w base g n l) : RdL w 1 boolc (some ⟨g, 0, none⟩) l := by
  obtain ⟨A, c, he, _, _, h2, _⟩ := RdL.of_own (enc := boolc) (sz := 1) (fun _ => rfl) h h.len.symm
  injection he with he
  subst he
  exact h2
theorem rowN.rd {l : List Nat} (h : rowN w base g n l) : RdL w 1 intN (some ⟨g, 0, none⟩) l := by
  obtain ⟨A, c, he, _, _, h2, _⟩ := RdL.of_own (enc := intN) (sz := 1) (fun _ => rfl) h h.len.symm
  injection he with he
  subst he
  exact h2
theorem rowB.cell {l : List Bool} (h : rowB w base g n l) {j : Nat} {b : Bool} (hj : l[j]? = some b) : w.cell? ⟨g, j, none⟩ = some (.bool b) := by
  obtain ⟨hl, e⟩ := List.getElem?_eq_some_iff.1 hj
  have := (h.rd.at_ hl).2 0 _ rfl
  simp only [Nat.add_zero, Nat.zero_add, Nat.mul_one] at this
  rw [this, e]
theorem rowN.cell {l : List Nat} (h : rowN w base g n l) {j v : Nat} (hj : l[j]? = some v) : w.cell? ⟨g, j, none⟩ = some (.int .i64 (v : Int)) := by
  obtain ⟨hl, e⟩ := List.getElem?_eq_some_iff.1 hj
  have := (h.rd.at_ hl).2 0 _ rfl
  simp only [Nat.add_zero, Nat.zero_add, Nat.mul_one] at this
  rw [this, e]
theorem rowB.set {l : List Bool} (h : rowB w base g n l) (j : Nat) (b : Bool) : rowB (w.setCell ⟨g, j, none⟩ (.bool b)) base g n (l.set j b) := by
  have := (World.ownsRow.stored h j (.bool b)).1
  rw [show l.flatMap boolc = l.map .bool from flat1v _ l] at this
  unfold rowB
  rw [show (l.set j b).flatMap boolc = (l.set j b).map .bool from flat1v _ _, List.map_set]
  exact this
theorem rowN.set {l : List Nat} (h : rowN w base g n l) (j v : Nat) {z : Int} (hz : z = (v : Int)) : rowN (w.setCell ⟨g, j, none⟩ (.int .i64 z)) base g n (l.set j v) := by
  have := (World.ownsRow.stored h j (.int .i64 (v : Int))).1
  rw [show l.flatMap intN = l.map (fun x : Nat => .int .i64 (x : Int)) from flat1v _ l] at this
  unfold rowN
  rw [show (l.set j v).flatMap intN = (l.set j v).map (fun x : Nat => .int .i64 (x : Int)) from flat1v _ _, List.map_set, hz]
  exact this
theorem rowB.uniq {l l' : List Bool} (h : rowB w base g n l) (h' : rowB w base g n l') : l = l' := by
  refine List.ext_getElem (by rw [h.len, h'.len]) fun j h1 h2 => ?_
  have e1 := h.cell (List.getElem?_eq_getElem h1)
  rw [h'.cell (List.getElem?_eq_getElem h2)] at e1
  injection e1 with e1
  injection e1 with e1
  exact e1.symm
theorem rowN.uniq {l l' : List Nat} (h : rowN w base g n l) (h' : rowN w base g n l') : l = l' := by
  refine List.ext_getElem (by rw [h.len, h'.len]) fun j h1 h2 => ?_
  have e1 := h.cell (List.getElem?_eq_getElem h1)
  rw [h'.cell (List.getElem?_eq_getElem h2)] at e1
  injection e1 with e1
  injection e1 with _ e1
  omega
theorem rowB.below {l : List Bool} (h : rowB w base g n l) (hb : Below w.heap.size w w') : rowB w' base g n l := own_below h hb
theorem rowN.below {l : List Nat} (h : rowN w base g n l) (hb : Below w.heap.size w w') : rowN w' base g n l := own_below h hb
theorem rowB.but {l : List Bool} {B : Nat} {t : TypeId} {cs : Array Value} (h : rowB w base g n l) (hb : But B w w') (hB : Blk w B t cs) (hn : 4 ≠ t) : rowB w' base g n l := own_but h hb hB hn
theorem rowN.but {l : List Nat} {B : Nat} {t : TypeId} {cs : Array Value} (h : rowN w base g n l) (hb : But B w w') (hB : Blk w B t cs) (hn : 3 ≠ t) : rowN w' base g n l := own_but h hb hB hn
open Classical in
noncomputable def zerosOf (w : World) (base g n : Nat) : Nat := if h : ∃ S, rowN w base g n S then h.choose.count 0 else 0
open Classical in
noncomputable def falsesOf (w : World) (base g n : Nat) : Nat := if h : ∃ S, rowB w base g n S then h.choose.count false else 0
theorem zerosOf_eq {S : List Nat} (h : rowN w base g n S) : zerosOf w base g n = S.count 0 := by
  have hx : ∃ S, rowN w base g n S := ⟨S, h⟩
  unfold zerosOf
  rw [dif_pos hx, hx.choose_spec.uniq h]
theorem falsesOf_eq {S : List Bool} (h : rowB w base g n S) : falsesOf w base g n = S.count false := by
  have hx : ∃ S, rowB w base g n S := ⟨S, h⟩
  unfold falsesOf
  rw [dif_pos hx, hx.choose_spec.uniq h]
end
/-- make of a row of bools, of numbers. -/
theorem wpList_mkB {w : World} {ops : Array Oper} {rest : List Oper} {o : Oper} {a : Act} {Q : Exit → Act → World → Prop} (hg : o.guard = none) (l c : Operand) (hop : o.op = Op.makeSlice 33 l c)
    (base n : Nat) (L C : Int) (hl : a.eval l = .int .i64 L) (hc : a.eval c = .int .i64 C) (hL : L = (n : Int)) (hC : C = (n : Int)) (hn : n ≤ 1000001) (hb : base ≤ w.heap.size)
    (h : ∀ w', rowB w' base w.heap.size n (List.replicate n false) → Below w.heap.size w w' → wpList Tryd.prog ops Q rest (a.put o.dst (.slice (some ⟨w.heap.size, 0, none⟩) n n)) w') :
    wpList Tryd.prog ops Q (o :: rest) a w := by
  obtain ⟨i0, hi, hz0, hz1, hz2⟩ := info_parts infoBoolT
  refine wpList_make_full w hg l c 33 hop base 4 i0 (.bool false) 1 Tryd.underlying33 hi hz0 hz1 .i64 .i64 L C n hl hc hL hC (by rw [hz2]; omega) (by unfold maxLen; omega) hb ?_
  intro w2 hown2 hg2
  rw [Nat.mul_one, show (Value.bool false).cells = #[.bool false] from rfl, toList_madeCells_one] at hown2
  refine h w2 ?_ ((Below.refl _ _).grown hg2 (Nat.le_refl _) (fun k h => by cases h))
  unfold rowB
  rw [show (List.replicate n false).flatMap boolc = (List.replicate n false).map .bool from flat1v _ _, List.map_replicate]
  exact hown2
theorem wpList_mkN {w : World} {ops : Array Oper} {rest : List Oper} {o : Oper} {a : Act} {Q : Exit → Act → World → Prop} (hg : o.guard = none) (l c : Operand) (hop : o.op = Op.makeSlice 45 l c)
    (base n : Nat) (L C : Int) (hl : a.eval l = .int .i64 L) (hc : a.eval c = .int .i64 C) (hL : L = (n : Int)) (hC : C = (n : Int)) (hn : n ≤ 1000001) (hb : base ≤ w.heap.size)
    (h : ∀ w', rowN w' base w.heap.size n (List.replicate n 0) → Below w.heap.size w w' → wpList Tryd.prog ops Q rest (a.put o.dst (.slice (some ⟨w.heap.size, 0, none⟩) n n)) w') :
    wpList Tryd.prog ops Q (o :: rest) a w := by
  obtain ⟨i0, hi, hz0, hz1, hz2⟩ := info_parts infoIntC
  refine wpList_make_full w hg l c 45 hop base 3 i0 (.int .i64 0) 1 Tryd.underlying45 hi hz0 hz1 .i64 .i64 L C n hl hc hL hC (by rw [hz2]; omega) (by unfold maxLen; omega) hb ?_
  intro w2 hown2 hg2
  rw [Nat.mul_one, show (Value.int .i64 0).cells = #[.int .i64 0] from rfl, toList_madeCells_one] at hown2
  refine h w2 ?_ ((Below.refl _ _).grown hg2 (Nat.le_refl _) (fun k h => by cases h))
  unfold rowN
  rw [show (List.replicate n 0).flatMap intN = (List.replicate n 0).map (fun x : Nat => .int .i64 (x : Int)) from flat1v _ _, List.map_replicate]
  exact hown2
/-- A pass: its block, its code's row, of its own. -/
structure PassW (w : World) (base g gl : Nat) (X : List Ins) (cl : Nat) (st : Int) (vc : Value) : Prop where
  hb : base ≤ g
  blk : Blk w g 78 #[.slice (some ⟨gl, 0, none⟩) X.length cl, .int .i64 st, vc]
  own : w.ownsRow base 36 4 (.slice (some ⟨gl, 0, none⟩) X.length cl) X.length (X.flatMap insc)
section
variable {w w' : World} {base g gl : Nat} {X : List Ins} {cl : Nat} {st : Int} {vc : Value}
theorem PassW.rd (h : PassW w base g gl X cl st vc) : RdL w 4 insc (some ⟨gl, 0, none⟩) X := by
  obtain ⟨A, c, he, _, _, h2, _⟩ := RdL.of_own (enc := insc) (sz := 4) (fun _ => rfl) h.own rfl
  injection he with he
  subst he
  exact h2
theorem PassW.below (h : PassW w base g gl X cl st vc) (hb : Below w.heap.size w w') : PassW w' base g gl X cl st vc := ⟨h.hb, h.blk.below hb, own_below h.own hb⟩
theorem PassW.but {B : Nat} {t : TypeId} {cs : Array Value} (h : PassW w base g gl X cl st vc) (hb : But B w w') (hB : Blk w B t cs) (h1 : 78 ≠ t) (h2 : 36 ≠ t) : PassW w' base g gl X cl st vc :=
  ⟨h.hb, hb.blk h.blk (h.blk.apart hB h1), own_but h.own hb hB h2⟩
theorem PassW.cyc (h : PassW w base g gl X cl st vc) (v : Value) : PassW (w.setCell ⟨g, 2, none⟩ v) base g gl X cl st v ∧ But g w (w.setCell ⟨g, 2, none⟩ v) :=
  ⟨⟨h.hb, by have := h.blk.set 2 v; simpa using this, own_but h.own (But.set w 2 v) h.blk (by decide)⟩, But.set w 2 v⟩
end
end Go.Proofs.YtpogngdddendiaaDoor
