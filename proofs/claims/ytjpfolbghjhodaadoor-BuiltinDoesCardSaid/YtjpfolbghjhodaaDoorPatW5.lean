/- The walk over pattern.Match: it returns just what the plain function says. Each text is shorter than a million bytes. -/
import Derived.Test.YtjpfolbghjhodaaDoorPatW4
import Derived.Test.YtjpfolbghjhodaaDoorLater
import Derived.Deep.DeepMust
set_option linter.unusedVariables false
set_option linter.unusedSimpArgs false
namespace Go.Proofs.YtjpfolbghjhodaaDoor
open Go.RowKit

theorem infoBool : (Tryd.prog.info? 4).map (fun i => (i.zero, i.size, i.bytes)) = some (some (.bool false), 1, 1) := by kernel_rfl

/-- the places that may be reached, but only the first so many are laid -/
def part (n : Nat) (f : Nat → Bool) (j : Nat) : List Bool := (List.range (n + 1)).map fun i => if i < j then f i else false
def bools (l : List Bool) : List Value := l.map .bool
theorem bools_len (l : List Bool) : (bools l).length = l.length := by simp [bools]
theorem part_len (n : Nat) (f : Nat → Bool) (j : Nat) : (part n f j).length = n + 1 := by simp [part]
theorem part_zero (n : Nat) (f : Nat → Bool) : part n f 0 = List.replicate (n + 1) false := by
  apply List.ext_getElem <;> simp [part]
theorem part_all (n : Nat) (f : Nat → Bool) (j : Nat) (h : n + 1 ≤ j) : part n f j = (List.range (n + 1)).map f := by
  apply List.ext_getElem
  · simp [part]
  · intro i h1 h2
    simp only [part, List.length_map, List.length_range] at h1
    simp [part, show i < j by omega]
theorem part_get (n : Nat) (f : Nat → Bool) (j i : Nat) (h : i ≤ n) : (bools (part n f j))[i]? = some (.bool (if i < j then f i else false)) := by
  simp [part, bools, show i < n + 1 by omega]
theorem part_set (n : Nat) (f : Nat → Bool) (j : Nat) (h : j ≤ n) : (bools (part n f j)).set j (.bool (f j)) = bools (part n f (j + 1)) := by
  apply List.ext_getElem
  · simp [part, bools]
  · intro i h1 h2
    simp only [bools, part, List.length_map, List.length_range] at h2
    by_cases hij : j = i
    · subst hij; simp [part, bools]
    · by_cases hlt : i < j
      · simp [part, bools, hij, hlt, show i < j + 1 by omega]
      · simp [part, bools, hij, hlt, show ¬ i < j + 1 by omega]
theorem part_setB (n : Nat) (f : Nat → Bool) (j : Nat) (h : j ≤ n) : (part n f j).set j (f j) = part n f (j + 1) := by
  apply List.ext_getElem
  · simp [part]
  · intro i h1 h2
    simp only [part, List.length_map, List.length_range] at h2
    by_cases hij : j = i
    · subst hij; simp [part]
    · by_cases hlt : i < j
      · simp [part, hij, hlt, show i < j + 1 by omega]
      · simp [part, hij, hlt, show ¬ i < j + 1 by omega]
theorem part_getD (n : Nat) (f : Nat → Bool) (j i : Nat) (h : i ≤ n) : (part n f j).getD i false = if i < j then f i else false := by
  simp [part, show i < n + 1 by omega]
theorem part_skip (n : Nat) (f : Nat → Bool) (j : Nat) (h : j ≤ n → f j = false) : part n f (j + 1) = part n f j := by
  apply List.ext_getElem
  · simp [part]
  · intro i h1 h2
    simp only [part, List.length_map, List.length_range] at h2
    by_cases hij : i = j
    · subst hij; simp [part]; exact h (by omega)
    · by_cases hlt : i < j
      · simp [part, hlt, show i < j + 1 by omega]
      · simp [part, hlt, show ¬ i < j + 1 by omega]

theorem made_bools (n : Nat) : (madeCells (Value.bool false).cells (n * 1)).toList = bools (List.replicate n false) := by
  rw [Nat.mul_one]; show (madeCells #[.bool false] n).toList = _
  rw [toList_madeCells_one]; simp [bools]

theorem bools_at (l : List Bool) (j : Nat) (h : j < l.length) : (bools l)[j]? = some (.bool (l.getD j false)) := by
  simp [bools, h, List.getD]

def ownBools (w : World) (base g n : Nat) (l : List Bool) : Prop := w.ownsRow base 4 1 (.slice (some ⟨g, 0, none⟩) n n) n (bools l)
theorem ownBools.cell {w : World} {base g n : Nat} {l : List Bool} (h : ownBools w base g n l) {j : Nat} (hj : j < n) : w.cell? ⟨g, j, none⟩ = some (.bool (l.getD j false)) := by
  have hl : l.length = n := by have := h.1; rw [bools_len] at this; omega
  rw [h.cellAt j (by omega), bools_at l j (by omega)]
theorem ownBools.fro {w : World} {base g n : Nat} {l : List Bool} (h : ownBools w base g n l) (j : Nat) : w.frozen? ⟨g, j, none⟩ = false := h.frozenAt j
theorem ownBools.below {w w' : World} {base g n : Nat} {l : List Bool} (h : ownBools w base g n l) (hb : Below w.heap.size w w') : ownBools w' base g n l := own_below h hb
theorem ownBools.other {w : World} {base g g' n : Nat} {l : List Bool} (h : ownBools w base g n l) (hne : g ≠ g') (j : Nat) (u : Value) : ownBools (w.setCell ⟨g', j, none⟩ u) base g n l :=
  World.ownsRow.kept (row := some g') h ⟨rfl, rfl, rfl, by simp [World.setCell], fun k _ hk => Below.heap_setCell _ _ _ _ (fun e => hk (by simp [e]))⟩ (Or.inr (by simp [Value.ownBlock, hne]))
theorem ownBools.store {w : World} {base g n : Nat} {l : List Bool} (h : ownBools w base g n l) (j : Nat) (b : Bool) : w.setCell ⟨g, j, none⟩ (.bool b) = w.setCell ⟨g, j, none⟩ (.bool b) ∧ ownBools (w.setCell ⟨g, j, none⟩ (.bool b)) base g n (l.set j b) := by
  refine ⟨rfl, ?_⟩
  have := (World.ownsRow.stored h j (.bool b)).1
  have e : (bools l).set j (.bool b) = bools (l.set j b) := by simp [bools, List.map_set]
  rw [e] at this
  exact this

/-- make of a row of bools. -/
theorem wpList_mkBools {w : World} {ops : Array Oper} {rest : List Oper} {o : Oper} {a : Act} {Q : Exit → Act → World → Prop} (hg : o.guard = none) (l c : Operand) (hop : o.op = Op.makeSlice 100 l c)
    (base n : Nat) (L C : Int) (hl : a.eval l = .int .i64 L) (hc : a.eval c = .int .i64 C) (hL : L = (n : Int)) (hC : C = (n : Int)) (hn : n ≤ 1000001) (hb : base ≤ w.heap.size)
    (h : ∀ w', ownBools w' base w.heap.size n (List.replicate n false) → Below w.heap.size w w' → w.heap.size < w'.heap.size → wpList Tryd.prog ops Q rest (a.put o.dst (.slice (some ⟨w.heap.size, 0, none⟩) n n)) w') :
    wpList Tryd.prog ops Q (o :: rest) a w := by
  obtain ⟨i0, hi, hz0, hz1, hz2⟩ := info_parts infoBool
  refine wpList_make_full w hg l c 100 hop base 4 i0 (.bool false) 1 Tryd.underlying100 hi hz0 hz1 .i64 .i64 L C n hl hc hL hC (by rw [hz2]; omega) (by unfold maxLen; omega) hb ?_
  intro w2 hown2 hg2
  rw [made_bools] at hown2
  have hlt : w.heap.size < w2.heap.size := by
    rcases hown2.2 with ⟨h, _⟩ | ⟨g, cap, cur, h, _, hgg, _⟩
    · cases h
    · injection h with h _ _
      injection h with h
      injection h with h _ _
      rw [h]; exact (Array.getElem?_eq_some_iff.1 hgg).1
  exact h w2 hown2 ((Below.refl _ _).grown hg2 (Nat.le_refl _) (fun k h => by cases h)) hlt

/-- what one step lays at each place -/
def stepF (s : List UInt8) (atL : List Bool) : Tok → Nat → Bool
  | .star, k => (atL.take (k + 1)).any id
  | t, k => match k with
    | 0 => false
    | j + 1 => atL.getD j false && t.ok (s.getD j 0)
theorem stepT_eq (s : List UInt8) (atL : List Bool) (t : Tok) : stepT s atL t = (List.range atL.length).map (stepF s atL t) := by
  cases t <;> rfl
theorem stepF_star_zero (s : List UInt8) (atL : List Bool) : stepF s atL .star 0 = atL.getD 0 false := by
  cases atL <;> simp [stepF]
theorem stepF_star_succ (s : List UInt8) (atL : List Bool) (j : Nat) : stepF s atL .star (j + 1) = (atL.getD (j + 1) false || stepF s atL .star j) := by
  simp only [stepF]
  rw [List.take_add_one, List.any_append, Bool.or_comm]
  congr 1
  rw [List.getD_eq_getElem?_getD]
  cases atL[j + 1]? with
  | none => rfl
  | some b => simp
theorem run_step (s : List UInt8) (atL : List Bool) (t : Tok) (n : Nat) (h : atL.length = n + 1) (ts : List Tok) (j : Nat) (hj : n + 1 ≤ j) : runT s (t :: ts) atL = runT s ts (part n (stepF s atL t) j) := by
  rw [part_all _ _ _ hj, ← h, ← stepT_eq]; rfl

theorem endAt_find (l : List Piece) : ∀ k : Nat, endAt l k = match l.findIdx? (·.isB 93) with | some m => ((k + m : Nat) : Int) | none => -1 := by
  induction l with
  | nil => intro k; rfl
  | cons p l ih =>
    intro k
    rw [endAt, List.findIdx?_cons, ih]
    cases p.isB 93 with
    | true => simp
    | false =>
      simp only [Bool.false_eq_true, if_false]
      cases l.findIdx? (·.isB 93) with
      | none => rfl
      | some m => show (((k + 1) + m : Nat) : Int) = ((k + (m + 1) : Nat) : Int); rw [show k + 1 + m = k + (m + 1) by omega]

theorem endAt_set (l : List Piece) (k : Nat) : endAt (l.drop (k + 2)) (k + 2) = match setEnd (l.drop (k + 1)) with | some j => ((k + 1 + j : Nat) : Int) | none => -1 := by
  rw [endAt_find, setEnd, List.drop_drop]
  cases (l.drop (k + 2)).findIdx? (·.isB 93) with
  | none => rfl
  | some m => show (((k + 2) + m : Nat) : Int) = ((k + 1 + (m + 1) : Nat) : Int); rw [show k + 2 + m = k + 1 + (m + 1) by omega]

theorem setEnd_lt {t : List Piece} {j : Nat} (h : setEnd t = some j) : 1 ≤ j ∧ j < t.length := by
  unfold setEnd at h
  obtain ⟨m, hm, rfl⟩ := Option.map_eq_some_iff.1 h
  have := List.findIdx?_eq_some_iff_getElem.1 hm
  obtain ⟨h1, _⟩ := this
  simp at h1
  omega

set_option maxHeartbeats 4000000 in
set_option maxRecDepth 100000 in
theorem match_any (p s : ByteArray) (w : World) (hp : p.size ≤ 1000000) (hs : s.size ≤ 1000000) :
    Calls Tryd.prog 88 #[.string p, .string s] w (Ret w (.bool (matchL p.data.toList s.data.toList))) := by
  go_enter Tryd.func88, Tryd.ntmps88
  go_wp2_with fail
  refine (pieces_any p _ (Nat.le_trans hp (by decide))).mono ?_
  rintro e w1 ⟨v, rfl, hown, hb0⟩
  have hle : (piecesOf p.data.toList 0).length ≤ 1000000 := by
    have h1 := piecesOf_length_le p.data.toList 0
    have h2 : p.data.toList.length = p.size := by simp
    omega
  obtain ⟨l, hl⟩ : ∃ l, l = piecesOf p.data.toList 0 := ⟨_, rfl⟩
  rw [← hl] at hown hle
  have HP := Lib.hid (show matchL p.data.toList s.data.toList = (runT s.data.toList (toks l) (true :: List.replicate s.size false)).getD s.size false by rw [hl]; simp [matchL])
  clear hl
  obtain ⟨A, c, rfl, hc1, hc2, hrd, hA⟩ := RdL.of_own pcs_len hown rfl
  clear hown hA
  unfold maxLen at hc2
  have hrep : (List.replicate (s.size + 1) false).set 0 true = true :: List.replicate s.size false := by simp [List.replicate_succ]
  have HR := Lib.hid hrep
  clear hrep
  go_wp2_with (at_make; refine wpList_mkBools rfl _ _ rfl w1.heap.size (s.size + 1) _ _ rfl rfl (by omega) (by omega) (by omega) (Nat.le_refl _) ?_; intro w2 ho2 hb2 hlt2; have a0 := ho2.cell (j := 0) (by omega); have f0 := ho2.fro 0)
  have ho3 := (ho2.store 0 true).2
  have hb3 := hb2.setCell (p := ⟨w1.heap.size, 0, none⟩) (Nat.le_refl _) (.bool true)
  rw [HR.out] at ho3
  clear a0 f0 ho2 hb2 HR
  go_loopw [7, 8] (fun v i wr => ∃ k g : Nat, ∃ atL : List Bool, k ≤ l.length ∧ i = .int .i64 k ∧ v = .slice (some ⟨g, 0, none⟩) (s.size + 1) (s.size + 1) ∧ g < wr.heap.size ∧ ownBools wr w1.heap.size g (s.size + 1) atL ∧ Below w1.heap.size w1 wr ∧ Hid (matchL p.data.toList s.data.toList = (runT s.data.toList (toks (l.drop k)) atL).getD s.size false))
    (fun _ i _ => l.length - (intOf i).toNat)
  case atStart => exact ⟨0, _, _, Nat.zero_le _, rfl, rfl, by simp [World.setCell]; omega, ho3, hb3, HP.out⟩
  case round =>
    clear ho3 hb3 HP
    obtain ⟨k, g, atL, hk, rfl, rfl, hg, ho, hb, H⟩ := hrel
    have hal : atL.length = s.size + 1 := by have := ho.1; rw [bools_len] at this; omega
    by_cases hlt : k < l.length
    · have hr := hrd.below hb
      obtain ⟨b, o, rfl⟩ : ∃ b o, A = some ⟨b, o, none⟩ := let ⟨b, o, h, _⟩ := hr k hlt; ⟨b, o, h⟩
      obtain ⟨c0, c1, c2⟩ := piece_cells hr hlt
      have hgl : w1.heap.size ≤ g := by
        rcases ho.2 with ⟨h, _⟩ | ⟨g', cap, cur, h, hbg, _⟩
        · cases h
        · injection h with h _ _; injection h with h; injection h with h _ _; rw [h]; exact hbg
      have hdr := List.drop_eq_getElem_cons hlt
      obtain ⟨q, hq⟩ : ∃ q, q = l[k] := ⟨_, rfl⟩
      rw [← hq] at c0 c1 c2 hdr
      have HQ := Lib.hid hq
      have HD := Lib.hid hdr
      clear hq hdr
      have hAL := Lib.hid hal
      clear hal
      have hszb := hb.size
      go_wp2_with (at_make; refine wpList_mkBools rfl _ _ rfl w1.heap.size (s.size + 1) _ _ rfl rfl (by omega) (by omega) (by omega) hb.size ?_; intro w3 ho3 hb3 hlt3; have d0 := cell_keep hb3 c0; have d1 := cell_keep hb3 c1; have d2 := cell_keep hb3 c2; clear c0 c1 c2)
      have hoa := ho.below hb3
      have hbw := hb.trans (hb3.mono hb.size)
      have hg3 : g < w3.heap.size := by have := hb3.size; omega
      have hne : g ≠ wr.heap.size := by omega
      obtain ⟨g2, hg2⟩ : ∃ g2, g2 = wr.heap.size := ⟨_, rfl⟩
      rw [← hg2] at ho3 hne hlt3 ⊢
      have hr3 := hrd.below hbw
      have hg2l : w1.heap.size ≤ g2 := by rw [hg2]; exact hszb
      clear ho hb hr hb3 hszb hg hg2 wr
      refine (is_any q 91 _).mono ?_
      cases h91 : q.isB 91
      · rintro e w4 ⟨rfl, hb4⟩
        replace hoa := hoa.below hb4
        replace ho3 := ho3.below hb4
        replace hlt3 : g2 < w4.heap.size := by have := hb4.size; omega
        replace hbw := hbw.trans (hb4.mono hbw.size)
        clear hb4 d0 d1 d2 hr3 hg3
        cases h42 : q.isB 42
        · have H42 := Lib.hid h42
          have H91 := Lib.hid h91
          clear h42 h91
          cases h63 : q.isB 63
          · have H63 := Lib.hid h63
            clear h63
            go_wp2_with fail
            go_loopw [46] (fun v wr => ∃ j : Nat, j ≤ s.size + 1 ∧ v = .int .i64 j ∧ ownBools wr w1.heap.size g (s.size + 1) atL ∧ ownBools wr w1.heap.size g2 (s.size + 1) (part s.size (stepF s.data.toList atL (.one q.c)) (j + 1)) ∧ Below w1.heap.size w1 wr ∧ g2 < wr.heap.size)
              (fun v _ => s.size + 1 - (intOf v).toNat)
            case atStart => exact ⟨0, Nat.zero_le _, rfl, hoa, by rw [part_skip _ _ _ (fun _ => rfl), part_zero]; exact ho3, hbw, hlt3⟩
            case round =>
              clear hoa ho3 hbw hlt3
              obtain ⟨j, hj, rfl, hoa, ho3, hbw, hlt3⟩ := hrel
              by_cases hjl : j < s.size + 1
              · obtain ⟨c0, c1, c2⟩ := piece_cells (hrd.below hbw) hlt
                rw [← HQ.out] at c0 c1 c2
                go_wp2_with fail
                refine (is_any q 42 _).mono ?_
                rintro e w5 ⟨rfl, hb5⟩
                rw [H42.out]
                have hoa5 := hoa.below hb5
                have ho5 := ho3.below hb5
                have hbw5 := hbw.trans (hb5.mono hbw.size)
                have hlt5 : g2 < w5.heap.size := by have := hb5.size; omega
                have hszw := hbw5.size
                have e0 := cell_keep hb5 c0
                have e1 := cell_keep hb5 c1
                have e2 := cell_keep hb5 c2
                have hr5 := hrd.below hbw5
                clear c0 c1 c2 hoa ho3 hbw hlt3 hb5
                have aj := hoa5.cell hjl
                obtain ⟨y, hy⟩ : ∃ y, y = atL.getD j false := ⟨_, rfl⟩
                rw [← hy] at aj
                have HY := Lib.hid hy
                clear hy
                cases y
                · have HK := Lib.hid (part_skip s.size (stepF s.data.toList atL (.one q.c)) (j + 1) (fun _ => by show (atL.getD j false && _) = false; rw [← HY.out]; rfl))
                  go_wp2_with fail
                  go_roundw
                  case rel => exact ⟨j + 1, by omega, by go_num, hoa5, by rw [HK.out]; exact ho5, hbw5, hlt5⟩
                  case measure => simp [intOf]; omega
                · by_cases hjs : j < s.size
                  · have HJ : ((j : Int) == (s.size : Int)) = false := by simp; omega
                    have HF1 := Lib.hid (show stepF s.data.toList atL (.one q.c) (j + 1) = Tok.ok (.one q.c) s[j] by
                      show (atL.getD j false && Tok.ok (.one q.c) (s.data.toList.getD j 0)) = _
                      rw [← HY.out, Bool.true_and]; congr 1; rw [List.getD_eq_getElem?_getD, List.getElem?_eq_getElem (by simpa using hjs)]; rfl)
                    have HS := Lib.hid (part_setB s.size (stepF s.data.toList atL (.one q.c)) (j + 1) (by omega))
                    have HK := Lib.hid (part_skip s.size (stepF s.data.toList atL (.one q.c)) (j + 1))
                    go_wp2_with fail
                    have l0 := Later.cell e0
                    have l1 := Later.cell e1
                    have l2 := Later.cell e2
                    have HC := Lib.hid (show ∀ W, Calls Tryd.prog 111 #[.agg #[.int .u8 q.c.toNat, .bool q.dead, .int .i64 q.frm], .int .u8 63] W (Ret W (.bool false)) from fun W => by rw [← H63.out]; exact is_any q 63 W)
                    cases hcq : (q.c == s[j])
                    · have HCQ := Lib.hid hcq
                      have hcb : ((q.c.toNat : Int) == (s[j].toNat : Int)) = false := by
                        rw [beq_eq_false_iff_ne]; intro h; rw [beq_eq_false_iff_ne] at hcq; exact hcq (u8_eq.2 h)
                      clear hcq
                      refine wp_region_later (by kernel_rfl) (by kernel_rfl) ?_
                      repeat (go_big_quiet_step ((exact Calls.later (HC.out _))))
                      refine wpQuiet_nil ?_
                      rintro w6 ⟨⟨_, hb6⟩, rfl⟩
                      have hoa6 := hoa5.below hb6
                      have ho6 := ho5.below hb6
                      have hbw6 := hbw5.trans (hb6.mono hszw)
                      have hlt6 : g2 < w6.heap.size := by have := hb6.size; omega
                      clear l0 l1 l2 e0 e1 e2 hoa5 ho5 hbw5 hlt5 hr5 hszw
                      go_wp2_with fail
                      go_roundw
                      case rel => exact ⟨j + 1, by omega, by go_num, hoa6, by rw [HK.out (fun _ => HF1.out.trans HCQ.out)]; exact ho6, hbw6, hlt6⟩
                      case measure => simp [intOf]; omega
                    · have HCQ := Lib.hid hcq
                      have hcb : ((q.c.toNat : Int) == (s[j].toNat : Int)) = true := by
                        rw [beq_iff_eq]; rw [beq_iff_eq] at hcq; exact u8_eq.1 hcq
                      clear hcq
                      refine wp_region_later (by kernel_rfl) (by kernel_rfl) ?_
                      repeat (go_big_quiet_step ((exact Calls.later (HC.out _))))
                      refine wpQuiet_nil ?_
                      rintro w6 ⟨⟨_, hb6⟩, rfl⟩
                      have hoa6 := hoa5.below hb6
                      have ho6 := ho5.below hb6
                      have hbw6 := hbw5.trans (hb6.mono hszw)
                      have hlt6 : g2 < w6.heap.size := by have := hb6.size; omega
                      clear l0 l1 l2 e0 e1 e2 hoa5 ho5 hbw5 hlt5 hr5 hszw
                      have fr := ho6.fro (j + 1)
                      have cj := ho6.cell (j := j + 1) (by omega)
                      have hst := fun b => (ho6.store (j + 1) b).2
                      have hot := fun u => hoa6.other (g' := g2) hne (j + 1) u
                      have hbs := fun u => hbw6.setCell (p := ⟨g2, (j + 1), none⟩) hg2l u
                      go_wp2_with fail
                      go_roundw
                      case rel => exact ⟨j + 1, by omega, by go_num, hot _, by rw [← HS.out, HF1.out, show Tok.ok (.one q.c) s[j] = true from HCQ.out]; exact hst true, hbs _, by simp [World.setCell]; omega⟩
                      case measure => simp [intOf]; omega
                  · obtain rfl : s.size = j := by omega
                    have HJ : (((s.size : Nat) : Int) == (s.size : Int)) = true := by simp
                    have HK := Lib.hid (part_skip s.size (stepF s.data.toList atL (.one q.c)) (s.size + 1) (fun h => by omega))
                    go_wp2_with fail
                    go_roundw
                    case rel => exact ⟨s.size + 1, by omega, by go_num, hoa5, by rw [HK.out]; exact ho5, hbw5, hlt5⟩
                    case measure => simp [intOf]
              · have HT := Lib.hid (show matchL p.data.toList s.data.toList = (runT s.data.toList (toks (l.drop (k + 1))) (part s.size (stepF s.data.toList atL (.one q.c)) (j + 1))).getD s.size false by
                  rw [H.out, HD.out, toks_one H42.out H63.out (fun h => by rw [H91.out] at h; cases h), run_step _ _ _ s.size hAL.out _ (j + 1) (by omega)])
                clear H HD hAL
                go_wp2_with fail
                go_roundw
                case rel => exact ⟨(k + 1), g2, _, by omega, by go_num, rfl, hlt3, ho3, hbw, HT.out⟩
                case measure => simp [intOf]; omega
          · have H63 := Lib.hid h63
            clear h63
            go_wp2_with fail
            go_loopw [46] (fun v wr => ∃ j : Nat, j ≤ s.size + 1 ∧ v = .int .i64 j ∧ ownBools wr w1.heap.size g (s.size + 1) atL ∧ ownBools wr w1.heap.size g2 (s.size + 1) (part s.size (stepF s.data.toList atL .any) (j + 1)) ∧ Below w1.heap.size w1 wr ∧ g2 < wr.heap.size)
              (fun v _ => s.size + 1 - (intOf v).toNat)
            case atStart => exact ⟨0, Nat.zero_le _, rfl, hoa, by rw [part_skip _ _ _ (fun _ => rfl), part_zero]; exact ho3, hbw, hlt3⟩
            case round =>
              clear hoa ho3 hbw hlt3
              obtain ⟨j, hj, rfl, hoa, ho3, hbw, hlt3⟩ := hrel
              by_cases hjl : j < s.size + 1
              · obtain ⟨c0, c1, c2⟩ := piece_cells (hrd.below hbw) hlt
                rw [← HQ.out] at c0 c1 c2
                go_wp2_with fail
                refine (is_any q 42 _).mono ?_
                rintro e w5 ⟨rfl, hb5⟩
                rw [H42.out]
                have hoa5 := hoa.below hb5
                have ho5 := ho3.below hb5
                have hbw5 := hbw.trans (hb5.mono hbw.size)
                have hlt5 : g2 < w5.heap.size := by have := hb5.size; omega
                have hszw := hbw5.size
                have e0 := cell_keep hb5 c0
                have e1 := cell_keep hb5 c1
                have e2 := cell_keep hb5 c2
                have hr5 := hrd.below hbw5
                clear c0 c1 c2 hoa ho3 hbw hlt3 hb5
                have aj := hoa5.cell hjl
                obtain ⟨y, hy⟩ : ∃ y, y = atL.getD j false := ⟨_, rfl⟩
                rw [← hy] at aj
                have HY := Lib.hid hy
                clear hy
                cases y
                · have HK := Lib.hid (part_skip s.size (stepF s.data.toList atL .any) (j + 1) (fun _ => by show (atL.getD j false && _) = false; rw [← HY.out]; rfl))
                  go_wp2_with fail
                  go_roundw
                  case rel => exact ⟨j + 1, by omega, by go_num, hoa5, by rw [HK.out]; exact ho5, hbw5, hlt5⟩
                  case measure => simp [intOf]; omega
                · by_cases hjs : j < s.size
                  · have HJ : ((j : Int) == (s.size : Int)) = false := by simp; omega
                    have HF1 := Lib.hid (show stepF s.data.toList atL .any (j + 1) = Tok.ok .any s[j] by
                      show (atL.getD j false && Tok.ok .any (s.data.toList.getD j 0)) = _
                      rw [← HY.out, Bool.true_and]; congr 1; rw [List.getD_eq_getElem?_getD, List.getElem?_eq_getElem (by simpa using hjs)]; rfl)
                    have HS := Lib.hid (part_setB s.size (stepF s.data.toList atL .any) (j + 1) (by omega))
                    have HK := Lib.hid (part_skip s.size (stepF s.data.toList atL .any) (j + 1))
                    go_wp2_with fail
                    have l0 := Later.cell e0
                    have l1 := Later.cell e1
                    have l2 := Later.cell e2
                    have HC := Lib.hid (show ∀ W, Calls Tryd.prog 111 #[.agg #[.int .u8 q.c.toNat, .bool q.dead, .int .i64 q.frm], .int .u8 63] W (Ret W (.bool true)) from fun W => by rw [← H63.out]; exact is_any q 63 W)
                    refine wp_region_later (by kernel_rfl) (by kernel_rfl) ?_
                    repeat (go_big_quiet_step ((exact Calls.later (HC.out _))))
                    refine wpQuiet_nil ?_
                    rintro w6 ⟨⟨_, hb6⟩, rfl⟩
                    have hoa6 := hoa5.below hb6
                    have ho6 := ho5.below hb6
                    have hbw6 := hbw5.trans (hb6.mono hszw)
                    have hlt6 : g2 < w6.heap.size := by have := hb6.size; omega
                    clear l0 l1 l2 e0 e1 e2 hoa5 ho5 hbw5 hlt5 hr5 hszw
                    have fr := ho6.fro (j + 1)
                    have cj := ho6.cell (j := j + 1) (by omega)
                    have hst := fun b => (ho6.store (j + 1) b).2
                    have hot := fun u => hoa6.other (g' := g2) hne (j + 1) u
                    have hbs := fun u => hbw6.setCell (p := ⟨g2, (j + 1), none⟩) hg2l u
                    go_wp2_with fail
                    go_roundw
                    case rel => exact ⟨j + 1, by omega, by go_num, hot _, by rw [← HS.out, HF1.out, show Tok.ok .any s[j] = true from rfl]; exact hst true, hbs _, by simp [World.setCell]; omega⟩
                    case measure => simp [intOf]; omega
                  · obtain rfl : s.size = j := by omega
                    have HJ : (((s.size : Nat) : Int) == (s.size : Int)) = true := by simp
                    have HK := Lib.hid (part_skip s.size (stepF s.data.toList atL .any) (s.size + 1) (fun h => by omega))
                    go_wp2_with fail
                    go_roundw
                    case rel => exact ⟨s.size + 1, by omega, by go_num, hoa5, by rw [HK.out]; exact ho5, hbw5, hlt5⟩
                    case measure => simp [intOf]
              · have HT := Lib.hid (show matchL p.data.toList s.data.toList = (runT s.data.toList (toks (l.drop (k + 1))) (part s.size (stepF s.data.toList atL .any) (j + 1))).getD s.size false by
                  rw [H.out, HD.out, toks_any H42.out H63.out, run_step _ _ _ s.size hAL.out _ (j + 1) (by omega)])
                clear H HD hAL
                go_wp2_with fail
                go_roundw
                case rel => exact ⟨(k + 1), g2, _, by omega, by go_num, rfl, hlt3, ho3, hbw, HT.out⟩
                case measure => simp [intOf]; omega
        · have H42 := Lib.hid h42
          clear h42
          go_wp2_with fail
          go_loopw [46] (fun v wr => ∃ j : Nat, j ≤ s.size + 1 ∧ v = .int .i64 j ∧ ownBools wr w1.heap.size g (s.size + 1) atL ∧ ownBools wr w1.heap.size g2 (s.size + 1) (part s.size (stepF s.data.toList atL .star) j) ∧ Below w1.heap.size w1 wr ∧ g2 < wr.heap.size)
            (fun v _ => s.size + 1 - (intOf v).toNat)
          case atStart => exact ⟨0, Nat.zero_le _, rfl, hoa, by rw [part_zero]; exact ho3, hbw, hlt3⟩
          case round =>
            clear hoa ho3 hbw hlt3
            obtain ⟨j, hj, rfl, hoa, ho3, hbw, hlt3⟩ := hrel
            by_cases hjl : j < s.size + 1
            · obtain ⟨c0, c1, c2⟩ := piece_cells (hrd.below hbw) hlt
              rw [← HQ.out] at c0 c1 c2
              go_wp2_with fail
              refine (is_any q 42 _).mono ?_
              rintro e w5 ⟨rfl, hb5⟩
              rw [H42.out]
              have hoa5 := hoa.below hb5
              have ho5 := ho3.below hb5
              have hbw5 := hbw.trans (hb5.mono hbw.size)
              have hlt5 : g2 < w5.heap.size := by have := hb5.size; omega
              have hszw := hbw5.size
              clear c0 c1 c2 hoa ho3 hbw hlt3 hb5
              have fr := ho5.fro j
              have cj := ho5.cell hjl
              have aj := hoa5.cell hjl
              have HS := Lib.hid (part_setB s.size (stepF s.data.toList atL .star) j (by omega))
              have hst := fun b => (ho5.store j b).2
              have hot := fun u => hoa5.other (g' := g2) hne j u
              have hbs := fun u => hbw5.setCell (p := ⟨g2, j, none⟩) hg2l u
              obtain ⟨y, hy⟩ : ∃ y, y = atL.getD j false := ⟨_, rfl⟩
              rw [← hy] at aj
              have HY := Lib.hid hy
              clear hy
              cases y
              · cases j with
                | zero =>
                  have HV := Lib.hid (show stepF s.data.toList atL .star 0 = false by rw [stepF_star_zero]; exact HY.out.symm)
                  go_wp2_with fail
                  go_roundw
                  case rel => exact ⟨1, by omega, rfl, hot _, by rw [← HS.out, HV.out]; exact hst false, hbs _, by simp [World.setCell]; omega⟩
                  case measure => simp [intOf]
                | succ j =>
                  have pj := ho5.cell (j := j) (by omega)
                  rw [part_getD _ _ _ _ (by omega), if_pos (Nat.lt_succ_self j)] at pj
                  obtain ⟨x, hx⟩ : ∃ x, x = stepF s.data.toList atL .star j := ⟨_, rfl⟩
                  rw [← hx] at pj
                  have HV := Lib.hid (show stepF s.data.toList atL .star (j + 1) = x by rw [stepF_star_succ, ← HY.out, ← hx]; rfl)
                  clear hx
                  go_wp2_with fail
                  go_roundw
                  case rel => exact ⟨j + 1 + 1, by omega, by go_num, hot _, by rw [← HS.out, HV.out]; exact hst x, hbs _, by simp [World.setCell]; omega⟩
                  case measure => simp [intOf]; omega
              · have HV := Lib.hid (show stepF s.data.toList atL .star j = true by
                  cases j with
                  | zero => rw [stepF_star_zero]; exact HY.out.symm
                  | succ j => rw [stepF_star_succ, ← HY.out]; rfl)
                go_wp2_with fail
                go_roundw
                case rel => exact ⟨j + 1, by omega, by go_num, hot _, by rw [← HS.out, HV.out]; exact hst true, hbs _, by simp [World.setCell]; omega⟩
                case measure => simp [intOf]; omega
            · have HT := Lib.hid (show matchL p.data.toList s.data.toList = (runT s.data.toList (toks (l.drop (k + 1))) (part s.size (stepF s.data.toList atL .star) j)).getD s.size false by
                rw [H.out, HD.out, toks_star H42.out, run_step _ _ _ s.size hAL.out _ j (by omega)])
              clear H HD hAL
              go_wp2_with fail
              go_roundw
              case rel => exact ⟨k + 1, g2, _, by omega, by go_num, rfl, hlt3, ho3, hbw, HT.out⟩
              case measure => simp [intOf]; omega
      · rintro e w4 ⟨rfl, hb4⟩
        have HEA := Lib.hid (endAt_set l k)
        have hr4 := hr3.below hb4
        go_wp2_with fail
        refine (end_any _ c k l _ hr4 (by omega) (by omega)).mono ?_
        rintro e w5 ⟨rfl, hb5⟩
        rw [HEA.out]
        replace hoa := (hoa.below hb4).below hb5
        replace ho3 := (ho3.below hb4).below hb5
        replace hlt3 : g2 < w5.heap.size := by have := hb4.size; have := hb5.size; omega
        replace hbw := (hbw.trans (hb4.mono hbw.size)).trans (hb5.mono (Nat.le_trans hbw.size hb4.size))
        clear hb4 hb5 d0 d1 d2 hr3 hr4 hg3
        have H91 := Lib.hid h91
        have H42 := Lib.hid (show q.isB 42 = false by
          have := H91.out
          simp only [Piece.isB, Bool.and_eq_true, beq_iff_eq] at this ⊢
          rw [this.1]; rfl)
        have H63 := Lib.hid (show q.isB 63 = false by
          have := H91.out
          simp only [Piece.isB, Bool.and_eq_true, beq_iff_eq] at this ⊢
          rw [this.1]; rfl)
        clear h91
        cases hse : setEnd (l.drop (k + 1)) with
        | none =>
          have HSE := Lib.hid hse
          clear hse HEA
          go_wp2_with fail
          go_loopw [46] (fun v wr => ∃ j : Nat, j ≤ s.size + 1 ∧ v = .int .i64 j ∧ ownBools wr w1.heap.size g (s.size + 1) atL ∧ ownBools wr w1.heap.size g2 (s.size + 1) (part s.size (stepF s.data.toList atL (.one q.c)) (j + 1)) ∧ Below w1.heap.size w1 wr ∧ g2 < wr.heap.size)
            (fun v _ => s.size + 1 - (intOf v).toNat)
          case atStart => exact ⟨0, Nat.zero_le _, rfl, hoa, by rw [part_skip _ _ _ (fun _ => rfl), part_zero]; exact ho3, hbw, hlt3⟩
          case round =>
            clear hoa ho3 hbw hlt3
            obtain ⟨j, hj, rfl, hoa, ho3, hbw, hlt3⟩ := hrel
            by_cases hjl : j < s.size + 1
            · obtain ⟨c0, c1, c2⟩ := piece_cells (hrd.below hbw) hlt
              rw [← HQ.out] at c0 c1 c2
              go_wp2_with fail
              refine (is_any q 42 _).mono ?_
              rintro e w5 ⟨rfl, hb5⟩
              rw [H42.out]
              have hoa5 := hoa.below hb5
              have ho5 := ho3.below hb5
              have hbw5 := hbw.trans (hb5.mono hbw.size)
              have hlt5 : g2 < w5.heap.size := by have := hb5.size; omega
              have hszw := hbw5.size
              have e0 := cell_keep hb5 c0
              have e1 := cell_keep hb5 c1
              have e2 := cell_keep hb5 c2
              have hr5 := hrd.below hbw5
              clear c0 c1 c2 hoa ho3 hbw hlt3 hb5
              have aj := hoa5.cell hjl
              obtain ⟨y, hy⟩ : ∃ y, y = atL.getD j false := ⟨_, rfl⟩
              rw [← hy] at aj
              have HY := Lib.hid hy
              clear hy
              cases y
              · have HK := Lib.hid (part_skip s.size (stepF s.data.toList atL (.one q.c)) (j + 1) (fun _ => by show (atL.getD j false && _) = false; rw [← HY.out]; rfl))
                go_wp2_with fail
                go_roundw
                case rel => exact ⟨j + 1, by omega, by go_num, hoa5, by rw [HK.out]; exact ho5, hbw5, hlt5⟩
                case measure => simp [intOf]; omega
              · by_cases hjs : j < s.size
                · have HJ : ((j : Int) == (s.size : Int)) = false := by simp; omega
                  have HF1 := Lib.hid (show stepF s.data.toList atL (.one q.c) (j + 1) = Tok.ok (.one q.c) s[j] by
                    show (atL.getD j false && Tok.ok (.one q.c) (s.data.toList.getD j 0)) = _
                    rw [← HY.out, Bool.true_and]; congr 1; rw [List.getD_eq_getElem?_getD, List.getElem?_eq_getElem (by simpa using hjs)]; rfl)
                  have HS := Lib.hid (part_setB s.size (stepF s.data.toList atL (.one q.c)) (j + 1) (by omega))
                  have HK := Lib.hid (part_skip s.size (stepF s.data.toList atL (.one q.c)) (j + 1))
                  go_wp2_with fail
                  have l0 := Later.cell e0
                  have l1 := Later.cell e1
                  have l2 := Later.cell e2
                  have HC := Lib.hid (show ∀ W, Calls Tryd.prog 111 #[.agg #[.int .u8 q.c.toNat, .bool q.dead, .int .i64 q.frm], .int .u8 63] W (Ret W (.bool false)) from fun W => by rw [← H63.out]; exact is_any q 63 W)
                  cases hcq : (q.c == s[j])
                  · have HCQ := Lib.hid hcq
                    have hcb : ((q.c.toNat : Int) == (s[j].toNat : Int)) = false := by
                      rw [beq_eq_false_iff_ne]; intro h; rw [beq_eq_false_iff_ne] at hcq; exact hcq (u8_eq.2 h)
                    clear hcq
                    refine wp_region_later (by kernel_rfl) (by kernel_rfl) ?_
                    repeat (go_big_quiet_step ((exact Calls.later (HC.out _))))
                    refine wpQuiet_nil ?_
                    rintro w6 ⟨⟨_, hb6⟩, rfl⟩
                    have hoa6 := hoa5.below hb6
                    have ho6 := ho5.below hb6
                    have hbw6 := hbw5.trans (hb6.mono hszw)
                    have hlt6 : g2 < w6.heap.size := by have := hb6.size; omega
                    clear l0 l1 l2 e0 e1 e2 hoa5 ho5 hbw5 hlt5 hr5 hszw
                    go_wp2_with fail
                    go_roundw
                    case rel => exact ⟨j + 1, by omega, by go_num, hoa6, by rw [HK.out (fun _ => HF1.out.trans HCQ.out)]; exact ho6, hbw6, hlt6⟩
                    case measure => simp [intOf]; omega
                  · have HCQ := Lib.hid hcq
                    have hcb : ((q.c.toNat : Int) == (s[j].toNat : Int)) = true := by
                      rw [beq_iff_eq]; rw [beq_iff_eq] at hcq; exact u8_eq.1 hcq
                    clear hcq
                    refine wp_region_later (by kernel_rfl) (by kernel_rfl) ?_
                    repeat (go_big_quiet_step ((exact Calls.later (HC.out _))))
                    refine wpQuiet_nil ?_
                    rintro w6 ⟨⟨_, hb6⟩, rfl⟩
                    have hoa6 := hoa5.below hb6
                    have ho6 := ho5.below hb6
                    have hbw6 := hbw5.trans (hb6.mono hszw)
                    have hlt6 : g2 < w6.heap.size := by have := hb6.size; omega
                    clear l0 l1 l2 e0 e1 e2 hoa5 ho5 hbw5 hlt5 hr5 hszw
                    have fr := ho6.fro (j + 1)
                    have cj := ho6.cell (j := j + 1) (by omega)
                    have hst := fun b => (ho6.store (j + 1) b).2
                    have hot := fun u => hoa6.other (g' := g2) hne (j + 1) u
                    have hbs := fun u => hbw6.setCell (p := ⟨g2, (j + 1), none⟩) hg2l u
                    go_wp2_with fail
                    go_roundw
                    case rel => exact ⟨j + 1, by omega, by go_num, hot _, by rw [← HS.out, HF1.out, show Tok.ok (.one q.c) s[j] = true from HCQ.out]; exact hst true, hbs _, by simp [World.setCell]; omega⟩
                    case measure => simp [intOf]; omega
                · obtain rfl : s.size = j := by omega
                  have HJ : (((s.size : Nat) : Int) == (s.size : Int)) = true := by simp
                  have HK := Lib.hid (part_skip s.size (stepF s.data.toList atL (.one q.c)) (s.size + 1) (fun h => by omega))
                  go_wp2_with fail
                  go_roundw
                  case rel => exact ⟨s.size + 1, by omega, by go_num, hoa5, by rw [HK.out]; exact ho5, hbw5, hlt5⟩
                  case measure => simp [intOf]
            · have HT := Lib.hid (show matchL p.data.toList s.data.toList = (runT s.data.toList (toks (l.drop (k + 1))) (part s.size (stepF s.data.toList atL (.one q.c)) (j + 1))).getD s.size false by
                rw [H.out, HD.out, toks_one H42.out H63.out (fun _ => HSE.out), run_step _ _ _ s.size hAL.out _ (j + 1) (by omega)])
              clear H HD hAL
              go_wp2_with fail
              go_roundw
              case rel => exact ⟨(k + 1), g2, _, by omega, by go_num, rfl, hlt3, ho3, hbw, HT.out⟩
              case measure => simp [intOf]; omega
        | some m =>
          have hml := setEnd_lt hse
          rw [List.length_drop] at hml
          have HSE := Lib.hid hse
          clear hse HEA
          go_wp2_with fail
          go_loopw [46] (fun v wr => ∃ j : Nat, j ≤ s.size + 1 ∧ v = .int .i64 j ∧ ownBools wr w1.heap.size g (s.size + 1) atL ∧ ownBools wr w1.heap.size g2 (s.size + 1) (part s.size (stepF s.data.toList atL (.set ((l.drop (k + 1)).take m))) (j + 1)) ∧ Below w1.heap.size w1 wr ∧ g2 < wr.heap.size)
            (fun v _ => s.size + 1 - (intOf v).toNat)
          case atStart => exact ⟨0, Nat.zero_le _, rfl, hoa, by rw [part_skip _ _ _ (fun _ => rfl), part_zero]; exact ho3, hbw, hlt3⟩
          case round =>
            clear hoa ho3 hbw hlt3
            obtain ⟨j, hj, rfl, hoa, ho3, hbw, hlt3⟩ := hrel
            by_cases hjl : j < s.size + 1
            · obtain ⟨c0, c1, c2⟩ := piece_cells (hrd.below hbw) hlt
              rw [← HQ.out] at c0 c1 c2
              go_wp2_with fail
              refine (is_any q 42 _).mono ?_
              rintro e w5 ⟨rfl, hb5⟩
              rw [H42.out]
              have hoa5 := hoa.below hb5
              have ho5 := ho3.below hb5
              have hbw5 := hbw.trans (hb5.mono hbw.size)
              have hlt5 : g2 < w5.heap.size := by have := hb5.size; omega
              have hszw := hbw5.size
              have e0 := cell_keep hb5 c0
              have e1 := cell_keep hb5 c1
              have e2 := cell_keep hb5 c2
              have hr5 := hrd.below hbw5
              clear c0 c1 c2 hoa ho3 hbw hlt3 hb5
              have aj := hoa5.cell hjl
              obtain ⟨y, hy⟩ : ∃ y, y = atL.getD j false := ⟨_, rfl⟩
              rw [← hy] at aj
              have HY := Lib.hid hy
              clear hy
              cases y
              · have HK := Lib.hid (part_skip s.size (stepF s.data.toList atL (.set ((l.drop (k + 1)).take m))) (j + 1) (fun _ => by show (atL.getD j false && _) = false; rw [← HY.out]; rfl))
                go_wp2_with fail
                go_roundw
                case rel => exact ⟨j + 1, by omega, by go_num, hoa5, by rw [HK.out]; exact ho5, hbw5, hlt5⟩
                case measure => simp [intOf]; omega
              · by_cases hjs : j < s.size
                · have HJ : ((j : Int) == (s.size : Int)) = false := by simp; omega
                  have HF1 := Lib.hid (show stepF s.data.toList atL (.set ((l.drop (k + 1)).take m)) (j + 1) = Tok.ok (.set ((l.drop (k + 1)).take m)) s[j] by
                    show (atL.getD j false && Tok.ok (.set ((l.drop (k + 1)).take m)) (s.data.toList.getD j 0)) = _
                    rw [← HY.out, Bool.true_and]; congr 1; rw [List.getD_eq_getElem?_getD, List.getElem?_eq_getElem (by simpa using hjs)]; rfl)
                  have HS := Lib.hid (part_setB s.size (stepF s.data.toList atL (.set ((l.drop (k + 1)).take m))) (j + 1) (by omega))
                  have HK := Lib.hid (part_skip s.size (stepF s.data.toList atL (.set ((l.drop (k + 1)).take m))) (j + 1))
                  go_wp2_with fail
                  have l0 := Later.cell e0
                  have l1 := Later.cell e1
                  have l2 := Later.cell e2
                  have HC := Lib.hid (show ∀ W, Calls Tryd.prog 111 #[.agg #[.int .u8 q.c.toNat, .bool q.dead, .int .i64 q.frm], .int .u8 63] W (Ret W (.bool false)) from fun W => by rw [← H63.out]; exact is_any q 63 W)
                  have hlm : ((l.drop (k + 1)).take m).length = m := by rw [List.length_take, List.length_drop]; omega
                  have HI := Lib.hid (show ∀ x : Later w5, Calls Tryd.prog 113 #[.slice (some ⟨b, o + (k + 1) * 3, none⟩) m (c - (k + 1)), .int .u8 s[j].toNat] x.val (Ret x.val (.bool (inL ((l.drop (k + 1)).take m) s[j]))) from fun x => by
                    have h := in_any (some ⟨b, o + (k + 1) * 3, none⟩) (c - (k + 1)) ((l.drop (k + 1)).take m) s[j] x.val
                      (((hr5.below x.below).drop (k + 1) (fun b' o' h _ => by simp only [Option.some.injEq, Addr.mk.injEq, and_true] at h; rw [← h.1, ← h.2])).take m) (by omega) (by omega) (by omega)
                    rw [hlm] at h
                    exact h)
                  have hgt : decide ((k : Int) < (k : Int) + 1 + (m : Int)) = true := by simp; omega
                  have hgq : ((k : Int) + 1 + (m : Int) == (k : Int)) = false := by simp; omega
                  have hmc : (k : Int) + 1 + (m : Int) ≤ (c : Int) := by omega
                  obtain ⟨y, hy⟩ : ∃ y, y = inL ((l.drop (k + 1)).take m) s[j] := ⟨_, rfl⟩
                  rw [← hy] at HI
                  have HY2 := Lib.hid hy
                  clear hy hlm
                  cases y
                  · refine wp_region_later (by kernel_rfl) (by kernel_rfl) ?_
                    repeat (go_big_quiet_step ((first | exact Calls.later (HC.out _) | exact Calls.later (HI.out _))))
                    refine wpQuiet_nil ?_
                    rintro w6 ⟨⟨_, hb6⟩, rfl⟩
                    have hoa6 := hoa5.below hb6
                    have ho6 := ho5.below hb6
                    have hbw6 := hbw5.trans (hb6.mono hszw)
                    have hlt6 : g2 < w6.heap.size := by have := hb6.size; omega
                    clear l0 l1 l2 e0 e1 e2 hoa5 ho5 hbw5 hlt5 hr5 hszw
                    go_wp2_with fail
                    go_roundw
                    case rel => exact ⟨j + 1, by omega, by go_num, hoa6, by rw [HK.out (fun _ => HF1.out.trans HY2.out.symm)]; exact ho6, hbw6, hlt6⟩
                    case measure => simp [intOf]; omega
                  · refine wp_region_later (by kernel_rfl) (by kernel_rfl) ?_
                    repeat (go_big_quiet_step ((first | exact Calls.later (HC.out _) | exact Calls.later (HI.out _))))
                    refine wpQuiet_nil ?_
                    rintro w6 ⟨⟨_, hb6⟩, rfl⟩
                    have hoa6 := hoa5.below hb6
                    have ho6 := ho5.below hb6
                    have hbw6 := hbw5.trans (hb6.mono hszw)
                    have hlt6 : g2 < w6.heap.size := by have := hb6.size; omega
                    clear l0 l1 l2 e0 e1 e2 hoa5 ho5 hbw5 hlt5 hr5 hszw
                    have fr := ho6.fro (j + 1)
                    have cj := ho6.cell (j := j + 1) (by omega)
                    have hst := fun b => (ho6.store (j + 1) b).2
                    have hot := fun u => hoa6.other (g' := g2) hne (j + 1) u
                    have hbs := fun u => hbw6.setCell (p := ⟨g2, (j + 1), none⟩) hg2l u
                    go_wp2_with fail
                    go_roundw
                    case rel => exact ⟨j + 1, by omega, by go_num, hot _, by rw [← HS.out, HF1.out, show Tok.ok (.set ((l.drop (k + 1)).take m)) s[j] = true from HY2.out.symm]; exact hst true, hbs _, by simp [World.setCell]; omega⟩
                    case measure => simp [intOf]; omega
                · obtain rfl : s.size = j := by omega
                  have HJ : (((s.size : Nat) : Int) == (s.size : Int)) = true := by simp
                  have HK := Lib.hid (part_skip s.size (stepF s.data.toList atL (.set ((l.drop (k + 1)).take m))) (s.size + 1) (fun h => by omega))
                  go_wp2_with fail
                  go_roundw
                  case rel => exact ⟨s.size + 1, by omega, by go_num, hoa5, by rw [HK.out]; exact ho5, hbw5, hlt5⟩
                  case measure => simp [intOf]
            · have HT := Lib.hid (show matchL p.data.toList s.data.toList = (runT s.data.toList (toks (l.drop (k + 1 + m + 1))) (part s.size (stepF s.data.toList atL (.set ((l.drop (k + 1)).take m))) (j + 1))).getD s.size false by
                rw [H.out, HD.out, toks_set H42.out H63.out H91.out HSE.out, List.drop_drop, show k + 1 + (m + 1) = k + 1 + m + 1 by omega, run_step _ _ _ s.size hAL.out _ (j + 1) (by omega)])
              clear H HD hAL
              go_wp2_with fail
              go_roundw
              case rel => exact ⟨(k + 1 + m + 1), g2, _, by omega, by go_num, rfl, hlt3, ho3, hbw, HT.out⟩
              case measure => simp [intOf]; omega
    · obtain rfl : l.length = k := by omega
      have HF := Lib.hid (show matchL p.data.toList s.data.toList = atL.getD s.size false by rw [H.out, List.drop_length, toks_nil]; rfl)
      clear H
      have a0 := ho.cell (j := s.size) (by omega)
      obtain ⟨y, hy⟩ : ∃ y, y = atL.getD s.size false := ⟨_, rfl⟩
      rw [← hy] at a0
      have HF2 := Lib.hid (HF.out.trans hy.symm)
      clear hy HF hal
      go_wp2_with fail
      go_ret
      exact ⟨by rw [HF2.out]; rfl, hb0.trans (hb.mono hb0.size)⟩
end Go.Proofs.YtjpfolbghjhodaaDoor
