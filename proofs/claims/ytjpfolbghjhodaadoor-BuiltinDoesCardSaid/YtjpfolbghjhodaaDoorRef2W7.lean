/- The walk over patoisref2.Match: it says what package pattern's says. Bounds on the lengths. -/
import Derived.Test.YtjpfolbghjhodaaDoorRef2W5
import Derived.Test.YtjpfolbghjhodaaDoorPatW5
import Derived.Deep.CutRange
import Derived.Outline
set_option linter.unusedVariables false
set_option linter.unusedSimpArgs false
namespace Go.Proofs.YtjpfolbghjhodaaDoor
open Go.RowKit

/-- make of a row of bools, for a seat's own law. -/
theorem stepF_next (s : ByteArray) (atL : List Bool) (t : Tok) (ht : ∀ k, stepF s.data.toList atL t (k + 1) = (atL.getD k false && t.ok (s.data.toList.getD k 0))) {j : Nat} (hj : j < s.size) (hy : atL.getD j false = true) : stepF s.data.toList atL t (j + 1) = t.ok s[j] := by
  rw [ht, hy, Bool.true_and]
  congr 1
  rw [List.getD_eq_getElem?_getD, List.getElem?_eq_getElem (by simpa using hj)]
  rfl

/-- Is a place up to here reached? -/
def onS (s : List UInt8) (atL : List Bool) : Nat → Bool
  | 0 => false
  | j + 1 => stepF s atL .star j
theorem onS_step (s : List UInt8) (atL : List Bool) (j : Nat) : stepF s atL .star j = (onS s atL j || atL.getD j false) := by
  cases j with
  | zero => rw [stepF_star_zero]; rfl
  | succ j => rw [stepF_star_succ, Bool.or_comm]; rfl
theorem ReadRet.rdc {s : ByteArray} {w : World} {e : Ending} {w' : World} (h : ReadRet s w e w') : ∃ A c, e = .returned (.slice A (piecesOf s.data.toList 0).length c) ∧ RdL w' 2 bcs A (piecesOf s.data.toList 0) ∧ Below w.heap.size w w' ∧ (piecesOf s.data.toList 0).length ≤ c ∧ c ≤ maxLen := by
  obtain ⟨v, rfl, h1, h2⟩ := h
  obtain ⟨A, c, rfl, h5, h6, h3, _⟩ := RdL.of_own bcs_len h1 rfl
  exact ⟨A, c, rfl, h3, h2, h5, h6⟩
theorem addr_drop2 {b o n sz m : Nat} : ∀ b' o', (some ⟨b, o, none⟩ : Option Addr) = some ⟨b', o', none⟩ → n < m → (some ⟨b, o + n * sz, none⟩ : Option Addr) = some ⟨b', o' + n * sz, none⟩ := by
  intro b' o' he _
  simp only [Option.some.injEq, Addr.mk.injEq, and_true] at he
  rw [he.1, he.2]
theorem inL_two2 {X : List Piece} (h : 1 < X.length) (c : UInt8) : inL X c = if (X[0]'(by omega)).isB 94 then !amongL (X.drop 1) c else amongL X c := by
  match X, h with
  | p :: q :: t, _ => rfl
theorem inL_one2 {X : List Piece} (h : X.length ≤ 1) (c : UInt8) : inL X c = amongL X c := by
  match X, h with
  | [], _ => rfl
  | [p], _ => rfl
theorem Blk.other {w : World} {g : Nat} {t : TypeId} {cs : Array Value} (h : Blk w g t cs) {a : Addr} (hne : g ≠ a.block) (u : Value) : Blk (w.setCell a u) g t cs := by
  unfold Blk at h ⊢
  rw [heap_setCell_other w a g u hne]
  exact h
set_option maxHeartbeats 8000000 in
set_option maxRecDepth 100000 in
theorem match2_any (p s : ByteArray) (w : World) (hp : p.size ≤ 1000000) (hs : s.size ≤ 1000000) :
    Calls Tryd.prog 42 #[.string p, .string s] w (Ret w (.bool (matchL p.data.toList s.data.toList))) := by
  go_enter Tryd.func42, Tryd.ntmps42
  go_wp2_with fail
  refine (read_any p _ (Nat.le_trans hp (by decide))).mono ?_
  intro e w1 h1
  obtain ⟨A, c, rfl, hrd, hb0, hcap, hcap2⟩ := h1.rdc
  have hle : (piecesOf p.data.toList 0).length ≤ 1000000 := by
    have h1 := piecesOf_length_le p.data.toList 0
    have h2 : p.data.toList.length = p.size := rfl
    omega
  clear h1
  obtain ⟨l, hl⟩ : ∃ l, l = piecesOf p.data.toList 0 := ⟨_, rfl⟩
  rw [← hl] at hrd hle hcap ⊢
  have HP := Lib.hid (show matchL p.data.toList s.data.toList = (runT s.data.toList (toks l) (true :: List.replicate s.size false)).getD s.size false by rw [hl]; rfl)
  clear hl
  generalize matchL p.data.toList s.data.toList = R at *
  obtain ⟨m, hm⟩ : ∃ m, m = l.length := ⟨_, rfl⟩
  rw [← hm] at hle hcap ⊢
  unfold maxLen at hcap2
  have HM := Lib.hid hm
  clear hm
  have HR := Lib.hid (show (List.replicate (s.size + 1) false).set 0 true = true :: List.replicate s.size false by simp [List.replicate_succ])
  go_wp2_with (at_make; refine wpList_mkBools rfl _ _ rfl w1.heap.size (s.size + 1) _ _ rfl rfl (by omega) (by omega) (by omega) (Nat.le_refl _) ?_; intro w2 ho2 hb2 hlt2; have a0 := ho2.cell (j := 0) (by omega); have f0 := ho2.fro 0)
  have ho3 := (ho2.store 0 true).2
  have hb3 := hb2.setCell (p := ⟨w1.heap.size, 0, none⟩) (Nat.le_refl _) (.bool true)
  rw [HR.out] at ho3
  clear a0 f0 ho2 hb2 HR
  go_loopw [6, 7] (fun v i wr => ∃ k g : Nat, ∃ atL : List Bool, k ≤ m ∧ i = .int .i64 k ∧ v = .slice (some ⟨g, 0, none⟩) (s.size + 1) (s.size + 1) ∧ g < wr.heap.size ∧ ownBools wr w1.heap.size g (s.size + 1) atL ∧ Below w1.heap.size w1 wr ∧ Hid (R = (runT s.data.toList (toks (l.drop k)) atL).getD s.size false))
    (fun _ i _ => m - (intOf i).toNat)
  case atStart => exact ⟨0, _, _, Nat.zero_le _, rfl, rfl, by simp [World.setCell]; omega, ho3, hb3, HP.out⟩
  case round =>
    clear ho3 hb3 HP
    obtain ⟨k, g, atL, hk, rfl, rfl, hg, ho, hb, H⟩ := hrel
    have hal : atL.length = s.size + 1 := by have := ho.1; rw [bools_len] at this; omega
    by_cases hlt : k < m
    · have hlt' : k < l.length := by rw [← HM.out]; exact hlt
      obtain ⟨b, o, rfl, _⟩ := hrd.addr (by omega)
      have c0 := cell_keep hb ((hrd.at_ hlt').2 0 _ rfl)
      have c1 := cell_keep hb ((hrd.at_ hlt').2 1 _ rfl)
      simp only [Nat.add_zero] at c0
      have hgl : w1.heap.size ≤ g := by
        rcases ho.2 with ⟨h, _⟩ | ⟨g', cap, cur, h, hbg, _⟩
        · cases h
        · injection h with h _ _; injection h with h; injection h with h _ _; rw [h]; exact hbg
      have hdr := List.drop_eq_getElem_cons hlt'
      obtain ⟨q, hq⟩ : ∃ q, q = l[k] := ⟨_, rfl⟩
      rw [← hq] at c0 c1 hdr
      have HD := Lib.hid hdr
      clear hq hdr
      have hAL := Lib.hid hal
      clear hal
      have hszb := hb.size
      go_upto_region 8 with (at_make; refine wpList_mkBools rfl _ _ rfl w1.heap.size (s.size + 1) _ _ rfl rfl (by omega) (by omega) (by omega) hb.size ?_; intro w3 ho3 hb3 hlt3; have d0 := cell_keep hb3 c0; have d1 := cell_keep hb3 c1)
      obtain ⟨W4, hW4⟩ : ∃ W4, W4 = w3.alloc (.cells #[.int .u8 q.c.toNat, .bool q.dead] 102) := ⟨_, rfl⟩
      have hb4 : Below w3.heap.size w3 W4 := by rw [hW4]; exact (Below.refl _ _).alloc (Nat.le_refl _) _
      have hB4 : Blk W4 w3.heap.size 102 #[.int .u8 q.c.toNat, .bool q.dead] := by rw [hW4]; exact Blk.new _ _ _
      go_upto_region 10 with (fail)
      rw [← hW4]
      clear hW4 d0 d1 c0 c1
      have hoa := (ho.below hb3).below hb4
      have ho4 := ho3.below hb4
      have hbw := (hb.trans (hb3.mono hb.size)).trans (hb4.mono (by have := hb.size; have := hb3.size; omega))
      have hne : g ≠ wr.heap.size := by omega
      obtain ⟨g2, hg2⟩ : ∃ g2, g2 = wr.heap.size := ⟨_, rfl⟩
      have hlt4 : g2 < W4.heap.size := by have := hb4.size; omega
      have hgb : g2 < w3.heap.size := by omega
      have hg2l : w1.heap.size ≤ g2 := by rw [hg2]; exact hszb
      rw [← hg2] at ho4 hne ⊢
      obtain ⟨gb, hgbe⟩ : ∃ gb, gb = w3.heap.size := ⟨_, rfl⟩
      rw [← hgbe] at hB4 hgb ⊢
      have hgb1 : w1.heap.size ≤ gb := by omega
      clear ho hb ho3 hb3 hlt3 hszb hg hg2 hgbe hb4
      generalize wr = wq at *
      obtain ⟨qc, qd, qf⟩ := q
      simp only at hB4
      have HB := Lib.hid hB4
      have x0 := hB4.cell 0
      have x1 := hB4.cell 1
      simp only [List.getElem?_toArray, List.getElem?_cons_zero, List.getElem?_cons_succ] at x0 x1
      clear hB4
      cases qd
      case true =>
        have HTOK := Lib.hid (show toks (l.drop k) = .one qc :: toks (l.drop (k + 1)) by rw [HD.out]; exact toks_one (by simp [Piece.isB]) (by simp [Piece.isB]) (fun h => by simp [Piece.isB] at h))
        go_wp2_with fail
        go_loopw [13] (fun v wr => ∃ j : Nat, j ≤ s.size ∧ v = .int .i64 j ∧ ownBools wr w1.heap.size g (s.size + 1) atL ∧ ownBools wr w1.heap.size g2 (s.size + 1) (part s.size (stepF s.data.toList atL (.one qc)) (j + 1)) ∧ Below w1.heap.size w1 wr ∧ g2 < wr.heap.size ∧ Hid (Blk wr gb 102 #[.int .u8 qc.toNat, .bool true])) (fun v _ => s.size - (intOf v).toNat)
        case atStart => exact ⟨0, Nat.zero_le _, rfl, hoa, by rw [part_skip _ _ _ (fun _ => rfl), part_zero]; exact ho4, hbw, hlt4, HB⟩
        case round =>
          clear hoa ho4 hbw hlt4 HB x0 x1
          obtain ⟨j, hj, rfl, hoa, ho4, hbw, hlt4, HB⟩ := hrel
          have x0 := HB.out.cell 0
          have x1 := HB.out.cell 1
          simp only [List.getElem?_toArray, List.getElem?_cons_zero, List.getElem?_cons_succ] at x0 x1
          by_cases hjl : j < s.size
          · have aj := hoa.cell (j := j) (by omega)
            obtain ⟨y, hy⟩ : ∃ y, y = atL.getD j false := ⟨_, rfl⟩
            rw [← hy] at aj
            have HY := Lib.hid hy
            clear hy
            cases y
            · have HK := Lib.hid (part_skip s.size (stepF s.data.toList atL (.one qc)) (j + 1) (fun _ => by show (atL.getD j false && _) = false; rw [← HY.out]; rfl))
              go_wp2_with fail
              go_roundw
              case rel => exact ⟨j + 1, by omega, by go_num, hoa, by rw [HK.out]; exact ho4, hbw, hlt4, HB⟩
              case measure => simp [intOf]; omega
            · have HF1 := Lib.hid (stepF_next s atL (.one qc) (fun _ => rfl) hjl HY.out.symm)
              have HS := Lib.hid (part_setB s.size (stepF s.data.toList atL (.one qc)) (j + 1) (by omega))
              obtain ⟨bb, hbb⟩ : ∃ bb, ((qc.toNat : Int) == (s[j].toNat : Int)) = bb := ⟨_, rfl⟩
              have HOK := Lib.hid (show Tok.ok (.one qc) s[j] = bb by
                rw [← hbb, Bool.eq_iff_iff]
                show (qc == s[j]) = true ↔ _
                rw [beq_iff_eq, beq_iff_eq, u8_eq2])
              have fr := ho4.fro (j + 1)
              have cj := ho4.cell (j := j + 1) (by omega)
              generalize (part s.size (stepF s.data.toList atL (Tok.one qc)) (j + 1)).getD (j + 1) false = old at *
              have hst := (ho4.store (j + 1) bb).2
              have hot := hoa.other (g' := g2) hne (j + 1) (.bool bb)
              have hbs := hbw.setCell (p := ⟨g2, (j + 1), none⟩) hg2l (.bool bb)
              have hBs := Lib.hid (HB.out.other (a := ⟨g2, (j + 1), none⟩) (by show gb ≠ g2; omega) (.bool bb))
              clear hoa ho4 hbw
              go_upto_region 24 with (fail)
              go_region
              go_wp2_with fail
              go_roundw
              case rel => exact ⟨j + 1, by omega, by go_num, hot, by rw [← HS.out, HF1.out, HOK.out]; exact hst, hbs.drew, by simp [World.setCell, World.drew]; omega, Lib.hid hBs.out⟩
              case measure => simp [intOf]; omega
          · obtain rfl : s.size = j := by omega
            have HT := Lib.hid (show R = (runT s.data.toList (toks (l.drop (k + 1))) (part s.size (stepF s.data.toList atL (.one qc)) (s.size + 1))).getD s.size false by
              rw [H.out, HTOK.out, run_step _ _ _ s.size hAL.out _ (s.size + 1) (Nat.le_refl _)])
            clear H hAL
            go_wp2_with fail
            go_roundw
            case rel => exact ⟨k + 1, g2, _, by omega, by go_num, rfl, hlt4, ho4, hbw, HT⟩
            case measure => simp [intOf]; omega
      case false =>
        have HI := Lib.hid (fun d : Int => show Piece.isB ⟨qc, false, qf⟩ d = ((qc.toNat : Int) == d) by simp [Piece.isB])
        cases c91 : ((qc.toNat : Int) == 91)
        case true =>
          have c42 : ((qc.toNat : Int) == 42) = false := by rw [beq_iff_eq] at c91; rw [c91]; rfl
          have c63 : ((qc.toNat : Int) == 63) = false := by rw [beq_iff_eq] at c91; rw [c91]; rfl
          have CC := Lib.hid (closes_any (some ⟨b, o, none⟩) c k l W4 (hrd.below hbw) (by rw [← HM.out]; omega) (by omega))
          rw [← HM.out] at CC
          cases hse : setEnd (l.drop (k + 1)) with
          | none =>
            have HZ := Lib.hid (show closeI (l.drop (k + 2)) (k + 2) = -1 by unfold closeI; rw [closes_setEnd, hse]; rfl)
            rw [HZ.out] at CC
            have HTOK := Lib.hid (show toks (l.drop k) = .one qc :: toks (l.drop (k + 1)) by rw [HD.out]; exact toks_one (by rw [HI.out]; exact c42) (by rw [HI.out]; exact c63) (fun _ => hse))
            clear hse
            go_wp2_with fail
            refine CC.out.mono ?_
            rintro e w5 ⟨rfl, rfl⟩
            clear CC
            go_wp2_with fail
            go_loopw [13] (fun v wr => ∃ j : Nat, j ≤ s.size ∧ v = .int .i64 j ∧ ownBools wr w1.heap.size g (s.size + 1) atL ∧ ownBools wr w1.heap.size g2 (s.size + 1) (part s.size (stepF s.data.toList atL (.one qc)) (j + 1)) ∧ Below w1.heap.size w1 wr ∧ g2 < wr.heap.size ∧ Hid (Blk wr gb 102 #[.int .u8 qc.toNat, .bool false])) (fun v _ => s.size - (intOf v).toNat)
            case atStart => exact ⟨0, Nat.zero_le _, rfl, hoa, by rw [part_skip _ _ _ (fun _ => rfl), part_zero]; exact ho4, hbw, hlt4, HB⟩
            case round =>
              clear hoa ho4 hbw hlt4 HB x0 x1
              obtain ⟨j, hj, rfl, hoa, ho4, hbw, hlt4, HB⟩ := hrel
              have x0 := HB.out.cell 0
              have x1 := HB.out.cell 1
              simp only [List.getElem?_toArray, List.getElem?_cons_zero, List.getElem?_cons_succ] at x0 x1
              by_cases hjl : j < s.size
              · have aj := hoa.cell (j := j) (by omega)
                obtain ⟨y, hy⟩ : ∃ y, y = atL.getD j false := ⟨_, rfl⟩
                rw [← hy] at aj
                have HY := Lib.hid hy
                clear hy
                cases y
                · have HK := Lib.hid (part_skip s.size (stepF s.data.toList atL (.one qc)) (j + 1) (fun _ => by show (atL.getD j false && _) = false; rw [← HY.out]; rfl))
                  go_wp2_with fail
                  go_roundw
                  case rel => exact ⟨j + 1, by omega, by go_num, hoa, by rw [HK.out]; exact ho4, hbw, hlt4, HB⟩
                  case measure => simp [intOf]; omega
                · have HF1 := Lib.hid (stepF_next s atL (.one qc) (fun _ => rfl) hjl HY.out.symm)
                  have HS := Lib.hid (part_setB s.size (stepF s.data.toList atL (.one qc)) (j + 1) (by omega))
                  obtain ⟨bb, hbb⟩ : ∃ bb, ((qc.toNat : Int) == (s[j].toNat : Int)) = bb := ⟨_, rfl⟩
                  have HOK := Lib.hid (show Tok.ok (.one qc) s[j] = bb by
                    rw [← hbb, Bool.eq_iff_iff]
                    show (qc == s[j]) = true ↔ _
                    rw [beq_iff_eq, beq_iff_eq, u8_eq2])
                  have fr := ho4.fro (j + 1)
                  have cj := ho4.cell (j := j + 1) (by omega)
                  generalize (part s.size (stepF s.data.toList atL (Tok.one qc)) (j + 1)).getD (j + 1) false = old at *
                  have hst := (ho4.store (j + 1) bb).2
                  have hot := hoa.other (g' := g2) hne (j + 1) (.bool bb)
                  have hbs := hbw.setCell (p := ⟨g2, (j + 1), none⟩) hg2l (.bool bb)
                  have hBs := Lib.hid (HB.out.other (a := ⟨g2, (j + 1), none⟩) (by show gb ≠ g2; omega) (.bool bb))
                  clear hoa ho4 hbw
                  go_upto_region 24 with (fail)
                  go_region
                  go_wp2_with fail
                  go_roundw
                  case rel => exact ⟨j + 1, by omega, by go_num, hot, by rw [← HS.out, HF1.out, HOK.out]; exact hst, hbs.drew, by simp [World.setCell, World.drew]; omega, Lib.hid hBs.out⟩
                  case measure => simp [intOf]; omega
              · obtain rfl : s.size = j := by omega
                have HT := Lib.hid (show R = (runT s.data.toList (toks (l.drop (k + 1))) (part s.size (stepF s.data.toList atL (.one qc)) (s.size + 1))).getD s.size false by
                  rw [H.out, HTOK.out, run_step _ _ _ s.size hAL.out _ (s.size + 1) (Nat.le_refl _)])
                clear H hAL
                go_wp2_with fail
                go_roundw
                case rel => exact ⟨k + 1, g2, _, by omega, by go_num, rfl, hlt4, ho4, hbw, HT⟩
                case measure => simp [intOf]; omega
          | some je =>
            have HZ := Lib.hid (show closeI (l.drop (k + 2)) (k + 2) = ((k + 1 + je : Nat) : Int) by unfold closeI; rw [closes_setEnd, hse]; simp; omega)
            rw [HZ.out] at CC
            have hje := setEnd_lt hse
            rw [List.length_drop, ← HM.out] at hje
            have HTOK := Lib.hid (show toks (l.drop k) = .set ((l.drop (k + 1)).take je) :: toks (l.drop (k + 1 + je + 1)) by
              rw [HD.out, toks_set (by rw [HI.out]; exact c42) (by rw [HI.out]; exact c63) (by rw [HI.out]; exact c91) hse, List.drop_drop]
              congr 3)
            clear hse
            go_wp2_with fail
            refine CC.out.mono ?_
            rintro e w5 ⟨rfl, rfl⟩
            clear CC
            obtain ⟨X, hX⟩ : ∃ X, X = (l.drop (k + 1)).take je := ⟨_, rfl⟩
            rw [← hX] at HTOK
            have HXL := Lib.hid (show je = X.length by rw [hX, List.length_take, List.length_drop, ← HM.out]; omega)
            have hrx : RdL w1 2 bcs (some ⟨b, o + (k + 1) * 2, none⟩) X := by rw [hX]; exact (hrd.drop (k + 1) addr_drop2).take je
            have HRX := Lib.hid hrx
            clear hX hrx
            go_wp2_with fail
            go_loopw [13] (fun v wr => ∃ j : Nat, j ≤ s.size ∧ v = .int .i64 j ∧ ownBools wr w1.heap.size g (s.size + 1) atL ∧ ownBools wr w1.heap.size g2 (s.size + 1) (part s.size (stepF s.data.toList atL (.set X)) (j + 1)) ∧ Below w1.heap.size w1 wr ∧ g2 < wr.heap.size ∧ Hid (Blk wr gb 102 #[.int .u8 qc.toNat, .bool false])) (fun v _ => s.size - (intOf v).toNat)
            case atStart => exact ⟨0, Nat.zero_le _, rfl, hoa, by rw [part_skip _ _ _ (fun _ => rfl), part_zero]; exact ho4, hbw, hlt4, HB⟩
            case round =>
              clear hoa ho4 hbw hlt4 HB x0 x1
              obtain ⟨j, hj, rfl, hoa, ho4, hbw, hlt4, HB⟩ := hrel
              have x0 := HB.out.cell 0
              have x1 := HB.out.cell 1
              simp only [List.getElem?_toArray, List.getElem?_cons_zero, List.getElem?_cons_succ] at x0 x1
              by_cases hjl : j < s.size
              · have aj := hoa.cell (j := j) (by omega)
                obtain ⟨y, hy⟩ : ∃ y, y = atL.getD j false := ⟨_, rfl⟩
                rw [← hy] at aj
                have HY := Lib.hid hy
                clear hy
                cases y
                · have HK := Lib.hid (part_skip s.size (stepF s.data.toList atL (.set X)) (j + 1) (fun _ => by show (atL.getD j false && _) = false; rw [← HY.out]; rfl))
                  go_wp2_with fail
                  go_roundw
                  case rel => exact ⟨j + 1, by omega, by go_num, hoa, by rw [HK.out]; exact ho4, hbw, hlt4, HB⟩
                  case measure => simp [intOf]; omega
                · have HF1 := Lib.hid (stepF_next s atL (.set X) (fun _ => rfl) hjl HY.out.symm)
                  have HS := Lib.hid (part_setB s.size (stepF s.data.toList atL (.set X)) (j + 1) (by omega))
                  have fr := ho4.fro (j + 1)
                  have cj := ho4.cell (j := j + 1) (by omega)
                  generalize (part s.size (stepF s.data.toList atL (Tok.set X)) (j + 1)).getD (j + 1) false = old at *
                  have HH := Lib.hid (And.intro (fun bb => (ho4.store (j + 1) bb).2) (And.intro (fun bb => hoa.other (g' := g2) hne (j + 1) (.bool bb)) (And.intro (fun bb => hbw.setCell (p := ⟨g2, (j + 1), none⟩) hg2l (.bool bb)) (fun bb => HB.out.other (a := ⟨g2, (j + 1), none⟩) (by show gb ≠ g2; omega) (.bool bb)))))
                  have hrxw := HRX.out.below hbw
                  have HCH := Lib.hid (fun c' => has_any (some ⟨b, o + (k + 1) * 2, none⟩) c' X s[j] wr hrxw (by rw [← HXL.out]; omega))
                  rw [← HXL.out] at HCH
                  by_cases hj1 : 1 < je
                  · have e0 := (hrxw.at_ (show 0 < X.length by rw [← HXL.out]; omega)).2 0 _ rfl
                    have e1 := (hrxw.at_ (show 0 < X.length by rw [← HXL.out]; omega)).2 1 _ rfl
                    simp only [Nat.zero_mul, Nat.add_zero] at e0 e1
                    have HIN := Lib.hid (inL_two2 (show 1 < X.length by rw [← HXL.out]; exact hj1) s[j])
                    have HCD := Lib.hid (fun c' => has_any (some ⟨b, o + (k + 1) * 2 + 2, none⟩) c' (X.drop 1) s[j] wr (hrxw.drop 1 (A' := some ⟨b, o + (k + 1) * 2 + 1 * 2, none⟩) addr_drop2) (by rw [List.length_drop, ← HXL.out]; omega))
                    rw [List.length_drop, ← HXL.out] at HCD
                    obtain ⟨p0, hp0⟩ : ∃ p0, p0 = X[0]'(by rw [← HXL.out]; omega) := ⟨_, rfl⟩
                    rw [← hp0] at e0 e1 HIN
                    obtain ⟨pc, pd, pf⟩ := p0
                    simp only at e0 e1
                    clear hp0 hoa ho4 hbw
                    obtain ⟨a94, ha94⟩ : ∃ a, ((pc.toNat : Int) == 94) = a := ⟨_, rfl⟩
                    have HV0 := Lib.hid (show Tok.ok (.set X) s[j] = if (a94 && !pd) = true then !amongL (X.drop 1) s[j] else amongL X s[j] by
                      rw [← ha94]
                      exact HIN.out)
                    generalize pc.toNat = pcn at *
                    clear HIN
                    cases a94
                    case false =>
                      have HV := Lib.hid (show Tok.ok (.set X) s[j] = amongL X s[j] by rw [HV0.out]; rfl)
                      clear HV0 HCD
                      go_wp2_with fail
                      refine (HCH.out _).mono ?_
                      rintro e w6 ⟨rfl, rfl⟩
                      generalize amongL X s[j] = bb at *
                      cases bb
                      all_goals
                        go_wp2_with fail
                        go_roundw
                        case rel => exact ⟨j + 1, by omega, by go_num, HH.out.2.1 _, by rw [← HS.out, HF1.out, HV.out]; exact HH.out.1 _, HH.out.2.2.1 _, by simp [World.setCell]; omega, Lib.hid (HH.out.2.2.2 _)⟩
                        case measure => simp [intOf]; omega
                    case true =>
                    cases pd
                    case true =>
                      have HV := Lib.hid (show Tok.ok (.set X) s[j] = amongL X s[j] by rw [HV0.out]; rfl)
                      clear HV0 HCD
                      go_wp2_with fail
                      refine (HCH.out _).mono ?_
                      rintro e w6 ⟨rfl, rfl⟩
                      generalize amongL X s[j] = bb at *
                      cases bb
                      all_goals
                        go_wp2_with fail
                        go_roundw
                        case rel => exact ⟨j + 1, by omega, by go_num, HH.out.2.1 _, by rw [← HS.out, HF1.out, HV.out]; exact HH.out.1 _, HH.out.2.2.1 _, by simp [World.setCell]; omega, Lib.hid (HH.out.2.2.2 _)⟩
                        case measure => simp [intOf]; omega
                    case false =>
                      have HV := Lib.hid (show Tok.ok (.set X) s[j] = !amongL (X.drop 1) s[j] by rw [HV0.out]; rfl)
                      clear HV0 HCH
                      go_wp2_with fail
                      refine (HCD.out _).mono ?_
                      rintro e w6 ⟨rfl, rfl⟩
                      generalize amongL (X.drop 1) s[j] = bb at *
                      cases bb
                      all_goals
                        go_wp2_with fail
                        go_roundw
                        case rel => exact ⟨j + 1, by omega, by go_num, HH.out.2.1 _, by rw [← HS.out, HF1.out, HV.out]; exact HH.out.1 _, HH.out.2.2.1 _, by simp [World.setCell]; omega, Lib.hid (HH.out.2.2.2 _)⟩
                        case measure => simp [intOf]; omega
                  · have HIN := Lib.hid (inL_one2 (show X.length ≤ 1 by rw [← HXL.out]; omega) s[j])
                    clear hoa ho4 hbw
                    go_wp2_with fail
                    refine (HCH.out _).mono ?_
                    rintro e w6 ⟨rfl, rfl⟩
                    have HV := Lib.hid (show Tok.ok (.set X) s[j] = amongL X s[j] from HIN.out)
                    generalize amongL X s[j] = bb at *
                    cases bb
                    all_goals
                      go_wp2_with fail
                      go_roundw
                      case rel => exact ⟨j + 1, by omega, by go_num, HH.out.2.1 _, by rw [← HS.out, HF1.out, HV.out]; exact HH.out.1 _, HH.out.2.2.1 _, by simp [World.setCell]; omega, Lib.hid (HH.out.2.2.2 _)⟩
                      case measure => simp [intOf]; omega
              · obtain rfl : s.size = j := by omega
                have HT := Lib.hid (show R = (runT s.data.toList (toks (l.drop (k + 1 + je + 1))) (part s.size (stepF s.data.toList atL (.set X)) (s.size + 1))).getD s.size false by
                  rw [H.out, HTOK.out, run_step _ _ _ s.size hAL.out _ (s.size + 1) (Nat.le_refl _)])
                clear H hAL
                go_wp2_with fail
                go_roundw
                case rel => exact ⟨k + 1 + je + 1, g2, _, by omega, by go_num, rfl, hlt4, ho4, hbw, HT⟩
                case measure => simp [intOf]; omega
        case false =>
        cases c42 : ((qc.toNat : Int) == 42)
        case true =>
          have HTOK := Lib.hid (show toks (l.drop k) = .star :: toks (l.drop (k + 1)) by rw [HD.out]; exact toks_star (by rw [HI.out]; exact c42))
          go_wp2_with fail
          go_loopw [11, 12] (fun ov v wr => ∃ (j : Nat) (on : Bool), j ≤ s.size + 1 ∧ v = .int .i64 j ∧ ov = .bool on ∧ ownBools wr w1.heap.size g (s.size + 1) atL ∧ ownBools wr w1.heap.size g2 (s.size + 1) (part s.size (stepF s.data.toList atL .star) j) ∧ Below w1.heap.size w1 wr ∧ g2 < wr.heap.size ∧ Hid (on = onS s.data.toList atL j)) (fun _ v _ => s.size + 1 - (intOf v).toNat)
          case atStart => exact ⟨0, false, Nat.zero_le _, rfl, rfl, hoa, by rw [part_zero]; exact ho4, hbw, hlt4, rfl⟩
          case round =>
            clear hoa ho4 hbw hlt4 HB x0 x1
            obtain ⟨j, on, hj, rfl, rfl, hoa, ho4, hbw, hlt4, HON⟩ := hrel
            by_cases hjl : j < s.size + 1
            · have aj := hoa.cell (j := j) (by omega)
              obtain ⟨y, hy⟩ : ∃ y, y = atL.getD j false := ⟨_, rfl⟩
              rw [← hy] at aj
              have HST := Lib.hid (show stepF s.data.toList atL .star j = (on || y) by rw [HON.out, hy, onS_step])
              have HS := Lib.hid (part_setB s.size (stepF s.data.toList atL .star) j (by omega))
              clear hy
              have fr := ho4.fro j
              have cj := ho4.cell (j := j) (by omega)
              generalize (part s.size (stepF s.data.toList atL Tok.star) j).getD j false = old at *
              have hst := fun bb => (ho4.store j bb).2
              have hot := fun bb => hoa.other (g' := g2) hne j (.bool bb)
              have hbs := fun bb => hbw.setCell (p := ⟨g2, j, none⟩) hg2l (.bool bb)
              have HH := Lib.hid (And.intro hst (And.intro hot hbs))
              have HN := Lib.hid (show onS s.data.toList atL (j + 1) = (on || y) from HST.out)
              clear hoa ho4 hbw hst hot hbs
              cases on
              · cases y
                all_goals
                  go_wp2_with fail
                  go_roundw
                  case rel => exact ⟨j + 1, _, by omega, by go_num, rfl, HH.out.2.1 _, by rw [← HS.out, HST.out]; exact HH.out.1 _, HH.out.2.2 _, by simp [World.setCell]; omega, Lib.hid (by rw [HN.out]; rfl)⟩
                  case measure => simp [intOf]; omega
              · go_wp2_with fail
                go_roundw
                case rel => exact ⟨j + 1, _, by omega, by go_num, rfl, HH.out.2.1 _, by rw [← HS.out, HST.out]; exact HH.out.1 _, HH.out.2.2 _, by simp [World.setCell]; omega, Lib.hid (by rw [HN.out]; rfl)⟩
                case measure => simp [intOf]; omega
            · obtain rfl : j = s.size + 1 := by omega
              have HT := Lib.hid (show R = (runT s.data.toList (toks (l.drop (k + 1))) (part s.size (stepF s.data.toList atL .star) (s.size + 1))).getD s.size false by
                rw [H.out, HTOK.out, run_step _ _ _ s.size hAL.out _ (s.size + 1) (Nat.le_refl _)])
              clear H hAL
              go_wp2_with fail
              go_roundw
              case rel => exact ⟨k + 1, g2, _, by omega, by go_num, rfl, hlt4, ho4, hbw, HT⟩
              case measure => simp [intOf]; omega
        case false =>
        cases c63 : ((qc.toNat : Int) == 63)
        case true =>
          have HTOK := Lib.hid (show toks (l.drop k) = .any :: toks (l.drop (k + 1)) by rw [HD.out]; exact toks_any (by rw [HI.out]; exact c42) (by rw [HI.out]; exact c63))
          go_wp2_with fail
          go_loopw [13] (fun v wr => ∃ j : Nat, j ≤ s.size ∧ v = .int .i64 j ∧ ownBools wr w1.heap.size g (s.size + 1) atL ∧ ownBools wr w1.heap.size g2 (s.size + 1) (part s.size (stepF s.data.toList atL .any) (j + 1)) ∧ Below w1.heap.size w1 wr ∧ g2 < wr.heap.size ∧ Hid (Blk wr gb 102 #[.int .u8 qc.toNat, .bool false])) (fun v _ => s.size - (intOf v).toNat)
          case atStart => exact ⟨0, Nat.zero_le _, rfl, hoa, by rw [part_skip _ _ _ (fun _ => rfl), part_zero]; exact ho4, hbw, hlt4, HB⟩
          case round =>
            clear hoa ho4 hbw hlt4 HB x0 x1
            obtain ⟨j, hj, rfl, hoa, ho4, hbw, hlt4, HB⟩ := hrel
            have x0 := HB.out.cell 0
            have x1 := HB.out.cell 1
            simp only [List.getElem?_toArray, List.getElem?_cons_zero, List.getElem?_cons_succ] at x0 x1
            by_cases hjl : j < s.size
            · have aj := hoa.cell (j := j) (by omega)
              obtain ⟨y, hy⟩ : ∃ y, y = atL.getD j false := ⟨_, rfl⟩
              rw [← hy] at aj
              have HY := Lib.hid hy
              clear hy
              cases y
              · have HK := Lib.hid (part_skip s.size (stepF s.data.toList atL .any) (j + 1) (fun _ => by show (atL.getD j false && _) = false; rw [← HY.out]; rfl))
                go_wp2_with fail
                go_roundw
                case rel => exact ⟨j + 1, by omega, by go_num, hoa, by rw [HK.out]; exact ho4, hbw, hlt4, HB⟩
                case measure => simp [intOf]; omega
              · have HF1 := Lib.hid (stepF_next s atL .any (fun _ => rfl) hjl HY.out.symm)
                have HS := Lib.hid (part_setB s.size (stepF s.data.toList atL .any) (j + 1) (by omega))
                have fr := ho4.fro (j + 1)
                have cj := ho4.cell (j := j + 1) (by omega)
                generalize (part s.size (stepF s.data.toList atL Tok.any) (j + 1)).getD (j + 1) false = old at *
                have hst := (ho4.store (j + 1) true).2
                have hot := hoa.other (g' := g2) hne (j + 1) (.bool true)
                have hbs := hbw.setCell (p := ⟨g2, (j + 1), none⟩) hg2l (.bool true)
                have hBs := Lib.hid (HB.out.other (a := ⟨g2, (j + 1), none⟩) (by show gb ≠ g2; omega) (.bool true))
                clear hoa ho4 hbw
                go_wp2_with fail
                go_roundw
                case rel => exact ⟨j + 1, by omega, by go_num, hot, by rw [← HS.out, HF1.out]; exact hst, hbs, by simp [World.setCell]; omega, hBs⟩
                case measure => simp [intOf]; omega
            · obtain rfl : s.size = j := by omega
              have HT := Lib.hid (show R = (runT s.data.toList (toks (l.drop (k + 1))) (part s.size (stepF s.data.toList atL .any) (s.size + 1))).getD s.size false by
                rw [H.out, HTOK.out, run_step _ _ _ s.size hAL.out _ (s.size + 1) (Nat.le_refl _)])
              clear H hAL
              go_wp2_with fail
              go_roundw
              case rel => exact ⟨k + 1, g2, _, by omega, by go_num, rfl, hlt4, ho4, hbw, HT⟩
              case measure => simp [intOf]; omega
        case false =>
          have HTOK := Lib.hid (show toks (l.drop k) = .one qc :: toks (l.drop (k + 1)) by rw [HD.out]; exact toks_one (by rw [HI.out]; exact c42) (by rw [HI.out]; exact c63) (fun h => by rw [HI.out, c91] at h; cases h))
          go_wp2_with fail
          go_loopw [13] (fun v wr => ∃ j : Nat, j ≤ s.size ∧ v = .int .i64 j ∧ ownBools wr w1.heap.size g (s.size + 1) atL ∧ ownBools wr w1.heap.size g2 (s.size + 1) (part s.size (stepF s.data.toList atL (.one qc)) (j + 1)) ∧ Below w1.heap.size w1 wr ∧ g2 < wr.heap.size ∧ Hid (Blk wr gb 102 #[.int .u8 qc.toNat, .bool false])) (fun v _ => s.size - (intOf v).toNat)
          case atStart => exact ⟨0, Nat.zero_le _, rfl, hoa, by rw [part_skip _ _ _ (fun _ => rfl), part_zero]; exact ho4, hbw, hlt4, HB⟩
          case round =>
            clear hoa ho4 hbw hlt4 HB x0 x1
            obtain ⟨j, hj, rfl, hoa, ho4, hbw, hlt4, HB⟩ := hrel
            have x0 := HB.out.cell 0
            have x1 := HB.out.cell 1
            simp only [List.getElem?_toArray, List.getElem?_cons_zero, List.getElem?_cons_succ] at x0 x1
            by_cases hjl : j < s.size
            · have aj := hoa.cell (j := j) (by omega)
              obtain ⟨y, hy⟩ : ∃ y, y = atL.getD j false := ⟨_, rfl⟩
              rw [← hy] at aj
              have HY := Lib.hid hy
              clear hy
              cases y
              · have HK := Lib.hid (part_skip s.size (stepF s.data.toList atL (.one qc)) (j + 1) (fun _ => by show (atL.getD j false && _) = false; rw [← HY.out]; rfl))
                go_wp2_with fail
                go_roundw
                case rel => exact ⟨j + 1, by omega, by go_num, hoa, by rw [HK.out]; exact ho4, hbw, hlt4, HB⟩
                case measure => simp [intOf]; omega
              · have HF1 := Lib.hid (stepF_next s atL (.one qc) (fun _ => rfl) hjl HY.out.symm)
                have HS := Lib.hid (part_setB s.size (stepF s.data.toList atL (.one qc)) (j + 1) (by omega))
                obtain ⟨bb, hbb⟩ : ∃ bb, ((qc.toNat : Int) == (s[j].toNat : Int)) = bb := ⟨_, rfl⟩
                have HOK := Lib.hid (show Tok.ok (.one qc) s[j] = bb by
                  rw [← hbb, Bool.eq_iff_iff]
                  show (qc == s[j]) = true ↔ _
                  rw [beq_iff_eq, beq_iff_eq, u8_eq2])
                have fr := ho4.fro (j + 1)
                have cj := ho4.cell (j := j + 1) (by omega)
                generalize (part s.size (stepF s.data.toList atL (Tok.one qc)) (j + 1)).getD (j + 1) false = old at *
                have hst := (ho4.store (j + 1) bb).2
                have hot := hoa.other (g' := g2) hne (j + 1) (.bool bb)
                have hbs := hbw.setCell (p := ⟨g2, (j + 1), none⟩) hg2l (.bool bb)
                have hBs := Lib.hid (HB.out.other (a := ⟨g2, (j + 1), none⟩) (by show gb ≠ g2; omega) (.bool bb))
                clear hoa ho4 hbw
                go_upto_region 24 with (fail)
                go_region
                go_wp2_with fail
                go_roundw
                case rel => exact ⟨j + 1, by omega, by go_num, hot, by rw [← HS.out, HF1.out, HOK.out]; exact hst, hbs.drew, by simp [World.setCell, World.drew]; omega, Lib.hid hBs.out⟩
                case measure => simp [intOf]; omega
            · obtain rfl : s.size = j := by omega
              have HT := Lib.hid (show R = (runT s.data.toList (toks (l.drop (k + 1))) (part s.size (stepF s.data.toList atL (.one qc)) (s.size + 1))).getD s.size false by
                rw [H.out, HTOK.out, run_step _ _ _ s.size hAL.out _ (s.size + 1) (Nat.le_refl _)])
              clear H hAL
              go_wp2_with fail
              go_roundw
              case rel => exact ⟨k + 1, g2, _, by omega, by go_num, rfl, hlt4, ho4, hbw, HT⟩
              case measure => simp [intOf]; omega
    · obtain rfl : k = m := by omega
      obtain ⟨y, hy⟩ : ∃ y, y = atL.getD s.size false := ⟨_, rfl⟩
      have HF := Lib.hid (show R = y by rw [hy, H.out, List.drop_of_length_le (by rw [← HM.out]; omega)]; rfl)
      have cs := ho.cell (j := s.size) (by omega)
      rw [← hy] at cs
      clear hy
      have hbw := hb0.trans (hb.mono hb0.size)
      clear H
      go_wp2_with fail
      go_ret
      exact ⟨name_ret2 HF.out.symm, hbw⟩
end Go.Proofs.YtjpfolbghjhodaaDoor
