/- The walks over strings.Builder's copyCheck and WriteByte, and over pattern.Escape and Plain. Each text is shorter than a million bytes. -/
import Derived.Test.YtpogngdddendiaaDoorHA
import Derived.Test.YtpogngdddendiaaDoorShelf
import Derived.Shelf.Strings.Builder1
set_option linter.unusedVariables false
set_option linter.unusedSimpArgs false
namespace Go.Proofs.YtpogngdddendiaaDoor
open Go.RowKit

theorem sizeBuilder : (Tryd.prog.info? 158).map (·.size) = some 2 := by kernel_rfl
theorem liesBuilder : liesAt Tryd.prog Tryd.prog.depth 158 (2 / Tryd.prog.cellsOf 158) 0 158 1 = true := by kernel_rfl
theorem infoByte : (Tryd.prog.info? 5).map (fun i => (i.zero, i.size, i.bytes)) = some (some (.int .u8 0), 1, 1) := by kernel_rfl

set_option maxHeartbeats 1000000 in
set_option maxRecDepth 100000 in
theorem copyCheck_used (b : Nat) (w : World) (h0 : w.cell? ⟨b, 0, none⟩ = some (.pointer (some ⟨b, 0, none⟩))) :
    Calls Tryd.prog 139 #[.pointer (some ⟨b, 0, none⟩)] w fun e w' => e = .returned (.tuple #[]) ∧ w' = w := by
  obtain ⟨j, hj, _⟩ := Option.map_eq_some_iff.1 sizeBuilder
  go_enter Tryd.func139, Tryd.ntmps139
  go_wp2
  rw [Lib.run_neq_ptr_same w _ Tryd.underlying155 hj]
  go_wp2
  go_end0
  exact ⟨rfl, rfl⟩
set_option maxHeartbeats 1000000 in
set_option maxRecDepth 100000 in
theorem copyCheck_fresh (b : Nat) (w : World) (h0 : w.cell? ⟨b, 0, none⟩ = some (.pointer none)) (hsh : w.shape? b = some (158, 2)) (hfz : w.frozen? ⟨b, 0, none⟩ = false) :
    Calls Tryd.prog 139 #[.pointer (some ⟨b, 0, none⟩)] w fun e w' => e = .returned (.tuple #[]) ∧ w' = w.setCell ⟨b, 0, none⟩ (.pointer (some ⟨b, 0, none⟩)) := by
  obtain ⟨j, hj, hjs⟩ := Option.map_eq_some_iff.1 sizeBuilder
  go_enter Tryd.func139, Tryd.ntmps139
  go_wp2
  rw [Lib.run_to_unsafe w ⟨b, 0, none⟩ Tryd.underlying155 Tryd.underlying206 hj (by rw [hjs]; decide) hsh (Nat.zero_lt_succ 1)]
  simp only [Result.andThen]
  rw [Oper.upon_value]
  go_wp2
  rw [run_callFunc_extern Tryd.func162 (by kernel_rfl) (by kernel_rfl) (by kernel_rfl) (e := Extern.AbiNoEscape.same) (by kernel_rfl)]
  rw [Lib.run_noEscape]
  simp only [Result.andThen]
  rw [Oper.upon_value]
  go_wp2
  rw [Lib.run_from_unsafe w ⟨b, 0, none⟩ Tryd.underlying206 Tryd.underlying155 hj hsh liesBuilder]
  simp only [Result.andThen]
  rw [Oper.upon_value]
  go_wp2
  go_end0
  exact ⟨rfl, rfl⟩
theorem copyCheck_any (B b : Nat) (bs : List Value) (w : World) (h : Lib.IsBuilder 158 5 B b bs w) :
    Calls Tryd.prog 139 #[.pointer (some ⟨b, 0, none⟩)] w fun e w' => e = .returned (.tuple #[]) ∧ (Lib.BuilderAt 158 5 B b (.pointer (some ⟨b, 0, none⟩)) bs w' ∧ Below B w w' ∧ Others [158, 5] w w') := by
  rcases h with h | h
  · refine (copyCheck_fresh b w h.cell0 h.shape h.frozen0).mono ?_
    rintro e w' ⟨rfl, rfl⟩
    obtain ⟨hB, v, hbk, _⟩ := id h
    exact ⟨rfl, h.used _, (Below.refl B w).setCell (p := ⟨b, 0, none⟩) h.1 _, Others.setCell hbk (by simp) _⟩
  · refine (copyCheck_used b w h.cell0).mono ?_
    rintro e w' ⟨rfl, rfl⟩
    exact ⟨rfl, h, Below.refl B _, Others.refl _ _⟩

/-- A builder of ours, holding these bytes. -/
def Bld (B b : Nat) (l : List UInt8) (w : World) : Prop := Lib.IsBuilder 158 5 B b (Lib.byteCells l) w

theorem Bld.fresh (w : World) : Bld w.heap.size w.heap.size [] (w.alloc (.cells #[.pointer none, .slice none 0 0] 158)) := Lib.fresh_isBuilder _ _ w

set_option maxHeartbeats 2000000 in
set_option maxRecDepth 100000 in
theorem writeByte_any (B b : Nat) (l : List UInt8) (c : UInt8) (w : World) (h : Bld B b l w) (hlen : l.length + 1 ≤ 140737488355328) (hBw : B ≤ w.heap.size) :
    Calls Tryd.prog 163 #[.pointer (some ⟨b, 0, none⟩), .int .u8 c.toNat] w fun e w' => e = .returned .nilIface ∧ Bld B b (l ++ [c]) w' ∧ Below B w w' ∧ Others [158, 5] w w' := by
  obtain ⟨i0, hi, hz0, hz1, hz2⟩ := info_parts infoByte
  have hll : (Lib.byteCells l).length = l.length := by simp [Lib.byteCells]
  go_enter Tryd.func163, Tryd.ntmps163
  go_wp2_with fail
  refine (copyCheck_any B b _ _ h).mono ?_
  rintro e w1 ⟨rfl, h1, hb1, ho1⟩
  obtain ⟨hB, v, hbk, hown, hne⟩ := h1
  rw [hll] at hown
  have c0 : w1.cell? ⟨b, 0, none⟩ = some (.pointer (some ⟨b, 0, none⟩)) := by rw [Lib.cell_of_heap hbk]; rfl
  have c1 : w1.cell? ⟨b, 1, none⟩ = some v := by rw [Lib.cell_of_heap hbk]; rfl
  have hlt : b < w1.heap.size := by
    rcases Nat.lt_or_ge b w1.heap.size with h' | h'
    · exact h'
    · simp [Array.getElem?_eq_none h'] at hbk
  have hsz := hb1.size
  go_wp2_with (at_builtin; refine wpList_append_own _ rfl _ _ 156 rfl B 5 i0 (.int .u8 0) 1 1 Tryd.underlying156 hi hz0 hz1 hz2 rfl (by decide) _ _ _ rfl (hown.alloc _) ⟨w1.heap.size, 0, none⟩ 1 1 [.int .u8 c.toNat] rfl rfl ?c1 ?c2 ?c3 ?c4 ?c5 ?_)
  case c1 =>
    intro j u hj
    match j, hj with
    | 0, hj => simp at hj; subst hj; simp [Addr.add]
  case c2 => intro u hu; simp at hu; subst hu; rfl
  case c3 => unfold maxLen; omega
  case c4 => omega
  case c5 => simp; omega
  intro v' w2 hown' hgrow _
  have hb2 : w2.heap[b]? = some (.cells #[.pointer (some ⟨b, 0, none⟩), v] 158 (0, 0)) := by
    rw [hgrow.block b (by simp; omega) (fun e => hne e.symm), Lib.alloc_old w1 _ b hlt]
    exact hbk
  have d0 : w2.cell? ⟨b, 0, none⟩ = some (.pointer (some ⟨b, 0, none⟩)) := by rw [Lib.cell_of_heap hb2]; rfl
  have d1 : w2.cell? ⟨b, 1, none⟩ = some v := by rw [Lib.cell_of_heap hb2]; rfl
  have f1 : w2.frozen? ⟨b, 1, none⟩ = false := Lib.frozen_of_heap hb2 1
  obtain ⟨g, cap, rfl⟩ : ∃ g cap, v' = .slice (some ⟨g, 0, none⟩) (l.length + 1) cap := by
    rcases hown'.2 with ⟨_, h0⟩ | ⟨g, cap, cur, hv, _⟩
    · omega
    · exact ⟨g, cap, hv⟩
  go_wp2
  go_ret
  refine ⟨rfl, .inr ?_, ?_, ((ho1.trans (Others.of_below ((Below.refl _ _).alloc (Nat.le_refl _) _))).trans (Others.grown (hown.alloc _) hgrow (by simp))).trans (Others.setCell hb2 (by simp) _)⟩
  · exact Lib.BuilderAt.put (T := 158) (e := 5) hB hb2 (bs' := Lib.byteCells (l ++ [c])) (by simpa [Lib.byteCells] using hown') (by decide)
  · exact ((hb1.alloc (by omega) _).grown hgrow (by simp; omega) (fun k hk => (hown.lt k hk).1)).setCell (p := ⟨b, 1, none⟩) hB _
theorem Bld.lt {B b : Nat} {l : List UInt8} {w : World} (h : Bld B b l w) : B ≤ b ∧ b < w.heap.size := by
  rcases h with h | h
  · exact ⟨h.1, h.lt⟩
  · exact ⟨h.1, h.lt⟩

/-- A builder stays what it is where nothing that was there is changed. -/
theorem Bld.below {B b : Nat} {l : List UInt8} {w w' : World} (h : Bld B b l w) (hb : Below w.heap.size w w') : Bld B b l w' := by
  have key : ∀ p, Lib.BuilderAt 158 5 B b p (Lib.byteCells l) w → Lib.BuilderAt 158 5 B b p (Lib.byteCells l) w' := by
    rintro p h
    have hlt := h.lt
    obtain ⟨hB, v, hbk, hown, hne⟩ := h
    exact ⟨hB, v, (hb.block b hlt).trans hbk, own_below hown hb, hne⟩
  exact h.elim (fun x => .inl (key _ x)) (fun x => .inr (key _ x))
end Go.Proofs.YtpogngdddendiaaDoor

/- The walks over pattern.Escape and pattern.Plain: each returns just what the plain functions say. Each text is shorter than a million bytes. -/
set_option linter.unusedVariables false
set_option linter.unusedSimpArgs false
namespace Go.Proofs.YtpogngdddendiaaDoor
open Go.RowKit

def specB (c : UInt8) : Bool := c == 42 || c == 63 || c == 91 || c == 93 || c == 92
theorem escB_eq (c : UInt8) : escB c = (specB c || blankB c) := rfl

theorem indexByte_spec (c : UInt8) : decide (0 ≤ Lib.indexByte [42, 63, 91, 93, 92] c) = specB c := by
  have e : ∀ (b : UInt8), (b == c) = (c == b) := fun b => by rw [Bool.eq_iff_iff, beq_iff_eq, beq_iff_eq]; exact eq_comm
  simp only [Lib.indexByte, specB, e]
  cases c == 42 <;> cases c == 63 <;> cases c == 91 <;> cases c == 93 <;> cases c == 92 <;> rfl

theorem u8_of (c : UInt8) : (c.toNat : Int).toNat.toUInt8 = c := by simp

theorem take_succ_u8 (s : ByteArray) (k : Nat) (h : k < s.size) : s.data.toList.take (k + 1) = s.data.toList.take k ++ [s[k]] := by
  rw [List.take_succ_eq_append_getElem (by simpa using h)]; rfl
theorem escapeL_snoc (l : List UInt8) (c : UInt8) : escapeL (l ++ [c]) = escapeL l ++ (if escB c then [92, c] else [c]) := by simp [escapeL]
theorem escapeL_len (l : List UInt8) : (escapeL l).length ≤ 2 * l.length := by
  induction l with
  | nil => simp [escapeL]
  | cons c l ih =>
    have h : escapeL (c :: l) = (if escB c then [92, c] else [c]) ++ escapeL l := rfl
    rw [h, List.length_append, List.length_cons]
    split
    · simp only [List.length_cons, List.length_nil]; omega
    · simp only [List.length_cons, List.length_nil]; omega

theorem string_ret {a b : List UInt8} (h : a = b) : Ending.returned (.string ⟨a.toArray⟩) = .returned (.string ⟨b.toArray⟩) := by rw [h]

set_option maxHeartbeats 1000000 in
theorem escape_any (s : ByteArray) (w : World) (hs : s.size ≤ 1000000) :
    Calls Tryd.prog 150 #[.string s] w (Ret w (.string ⟨(escapeL s.data.toList).toArray⟩)) := by
  go_enter Tryd.func150, Tryd.ntmps150
  go_wp2_with fail
  go_loopw [7] (fun i wr => ∃ k : Nat, k ≤ s.size ∧ i = .int .i64 k ∧ Bld w.heap.size w.heap.size (escapeL (s.data.toList.take k)) wr ∧ Below w.heap.size w wr)
    (fun i _ => s.size - (intOf i).toNat)
  case atStart => exact ⟨0, Nat.zero_le _, rfl, Bld.fresh w, (Below.refl _ _).alloc (Nat.le_refl _) _⟩
  case round =>
    obtain ⟨k, hk, rfl, hB, hb⟩ := hrel
    by_cases hlt : k < s.size
    · have HT := Lib.hid (escapeL_snoc (s.data.toList.take k) s[k])
      have HS := Lib.hid (take_succ_u8 s k hlt)
      have hlen : (escapeL (s.data.toList.take k)).length ≤ 2000000 := by
        have h1 := escapeL_len (s.data.toList.take k)
        rw [List.length_take] at h1
        omega
      generalize hl : escapeL (s.data.toList.take k) = l at *
      clear hl
      have HI := Lib.hid (indexByte_spec s[k])
      have HU := Lib.hid (u8_of s[k])
      obtain ⟨c, hc⟩ : ∃ c, c = s[k] := ⟨_, rfl⟩
      have HC := Lib.hid hc
      go_wp2_with fail
      refine (Tryd.strings_IndexByte _ _ _).mono ?_
      rintro e w1 ⟨rfl, rfl⟩
      rw [HU.out, ← HC.out]
      have hI := HI.out
      rw [← HC.out] at hI
      generalize Lib.indexByte _ c = ix at hI ⊢
      cases hsp : specB c
      · rw [hsp] at hI
        have hI' : ¬ 0 ≤ ix := by simpa using hI
        clear hI hc
        go_wp2_with fail
        rw [← HC.out]
        refine (tblank_any c _).mono ?_
        cases hbl : blankB c
        · rintro e w1 ⟨rfl, rfl⟩
          go_wp2_with fail
          rw [← HC.out]
          refine (writeByte_any _ _ l c _ hB (by omega) hb.size).mono ?_
          rintro e w1 ⟨rfl, hB1, hb1, _⟩
          go_wp2_with fail
          go_roundw
          case rel => exact ⟨k + 1, by omega, by go_num, by rw [HS.out, HT.out, ← HC.out, escB_eq, hsp, hbl]; exact hB1, hb.trans hb1⟩
          case measure => simp [intOf]; omega
        · rintro e w1 ⟨rfl, rfl⟩
          go_wp2_with fail
          refine (writeByte_any _ _ l 92 _ hB (by omega) hb.size).mono ?_
          rintro e w1 ⟨rfl, hB1, hb1, _⟩
          have hsz1 := (hb.trans hb1).size
          go_wp2_with fail
          rw [← HC.out]
          refine (writeByte_any _ _ (l ++ [92]) c _ hB1 (by simp; omega) hsz1).mono ?_
          rintro e w2 ⟨rfl, hB2, hb2, ho2⟩
          go_wp2_with fail
          go_roundw
          case rel => exact ⟨k + 1, by omega, by go_num, by rw [HS.out, HT.out, ← HC.out, escB_eq, hsp, hbl]; simpa using hB2, (hb.trans hb1).trans hb2⟩
          case measure => simp [intOf]; omega
      · rw [hsp] at hI
        have hI' : 0 ≤ ix := by simpa using hI
        clear hI hc
        go_wp2_with fail
        refine (writeByte_any _ _ l 92 _ hB (by omega) hb.size).mono ?_
        rintro e w1 ⟨rfl, hB1, hb1, _⟩
        have hsz1 := (hb.trans hb1).size
        go_wp2_with fail
        rw [← HC.out]
        refine (writeByte_any _ _ (l ++ [92]) c _ hB1 (by simp; omega) hsz1).mono ?_
        rintro e w2 ⟨rfl, hB2, hb2, ho2⟩
        go_wp2_with fail
        go_roundw
        case rel => exact ⟨k + 1, by omega, by go_num, by rw [HS.out, HT.out, ← HC.out, escB_eq, hsp]; simpa using hB2, (hb.trans hb1).trans hb2⟩
        case measure => simp [intOf]; omega
    · obtain rfl : s.size = k := by omega
      have HF := Lib.hid (show s.data.toList.take s.size = s.data.toList from List.take_of_length_le (by simp))
      go_wp2_with fail
      refine (Tryd.Builder_String_any _ _ _ _ hB hb.size).mono ?_
      rintro e w1 ⟨rfl, hb1⟩
      go_wp2_with fail
      go_ret
      exact ⟨string_ret (by rw [HF.out]), hb.trans hb1⟩

set_option maxHeartbeats 1000000 in
theorem plain_any (s : ByteArray) (w : World) (hs : s.size ≤ 1000000) :
    Calls Tryd.prog 151 #[.string s] w (Ret w (.string ⟨(plainL s.data.toList).toArray⟩)) := by
  go_enter Tryd.func151, Tryd.ntmps151
  go_wp2_with fail
  refine (pieces_any s _ (Nat.le_trans hs (by decide))).mono ?_
  rintro e w1 ⟨v, rfl, hown, hb0⟩
  have hsz : w.heap.size + 1 ≤ w1.heap.size := by have := hb0.size; simpa using this
  have hB0 : Bld w.heap.size w.heap.size [] w1 := (Bld.fresh w).below hb0
  have hb1 : Below w.heap.size w w1 := ((Below.refl _ _).alloc (Nat.le_refl _) _).trans (hb0.mono (by simp))
  have hle := piecesOf_length_le s.data.toList 0
  have hs2 : s.data.toList.length = s.size := by simp
  obtain ⟨l, hl⟩ : ∃ l, l = piecesOf s.data.toList 0 := ⟨_, rfl⟩
  rw [← hl] at hown hle
  have HP := Lib.hid (show plainL s.data.toList = l.map (·.c) by rw [hl]; rfl)
  rw [hs2] at hle
  clear hl hs2
  obtain ⟨A, c, rfl, hc1, hc2, hrd, hA⟩ := RdL.of_own pcs_len hown rfl
  clear hrd
  go_wp2_with fail
  go_loopw [15] (fun i wr => ∃ k : Nat, k ≤ l.length ∧ i = .int .i64 k ∧ Bld w.heap.size w.heap.size ((l.take k).map (·.c)) wr ∧ Below w.heap.size w wr ∧ wr.ownsRow (w.heap.size + 1) 189 3 (.slice A l.length c) l.length (l.flatMap pcs))
    (fun i _ => l.length - (intOf i).toNat)
  case atStart => exact ⟨0, Nat.zero_le _, rfl, hB0, hb1, by simpa using hown⟩
  case round =>
    obtain ⟨k, hk, rfl, hB, hb, hr⟩ := hrel
    clear hown hb0 hb1 hB0
    by_cases hlt : k < l.length
    · have HF := Lib.hid (RdL.of_own pcs_len hr rfl)
      obtain ⟨A', c', he, _, _, hrd, _⟩ := HF.out
      injection he with he1 _ he2
      subst he1 he2
      obtain ⟨b, o, rfl, hbl, hcl⟩ := hrd k hlt
      have c0 := hcl 0 _ rfl
      have c1 := hcl 1 _ rfl
      have c2 := hcl 2 _ rfl
      clear hcl HF hrd
      simp only [Nat.add_zero] at c0
      have HT := Lib.hid (show (l.take (k + 1)).map (·.c) = (l.take k).map (·.c) ++ [l[k].c] by rw [List.take_succ_eq_append_getElem hlt, List.map_append]; rfl)
      have hlen : ((l.take k).map (·.c)).length ≤ 1000000 := by simp; omega
      generalize (l.take k).map (·.c) = m at *
      obtain ⟨p, hp⟩ : ∃ p, p = l[k] := ⟨_, rfl⟩
      rw [← hp] at HT c0 c1 c2
      clear hp
      have hBa := hB.below ((Below.refl wr.heap.size wr).alloc (Nat.le_refl _) (.cells #[.int .u8 p.c.toNat, .bool p.dead, .int .i64 p.frm] 189))
      have hra := hr.alloc (.cells #[.int .u8 p.c.toNat, .bool p.dead, .int .i64 p.frm] 189)
      have hsz := hb.size
      go_wp2_with fail
      refine (writeByte_any _ _ m p.c _ hBa (by omega) (by simp; omega)).mono ?_
      rintro e w2 ⟨rfl, hB2, hb2, ho2⟩
      go_wp2_with fail
      go_roundw
      case rel => exact ⟨k + 1, by omega, by go_num, by rw [HT.out]; exact hB2, (hb.alloc hsz _).trans hb2, own_others hra ho2 (by decide)⟩
      case measure => simp [intOf]; omega
    · obtain rfl : l.length = k := by omega
      have HF := Lib.hid (show plainL s.data.toList = (l.take l.length).map (·.c) by rw [HP.out, List.take_length])
      clear HP
      generalize (l.take l.length).map (·.c) = m at *
      go_wp2_with fail
      refine (Tryd.Builder_String_any _ _ _ _ hB hb.size).mono ?_
      rintro e w1 ⟨rfl, hb1⟩
      go_wp2_with fail
      go_ret
      exact ⟨string_ret (by rw [HF.out]), hb.trans hb1⟩
end Go.Proofs.YtpogngdddendiaaDoor

/- The walks over package pattern's among and in: whether a byte is one of a set. Fewer than a million pieces. -/
set_option linter.unusedVariables false
set_option linter.unusedSimpArgs false
namespace Go.Proofs.YtpogngdddendiaaDoor
open Go.RowKit

theorem u8_le {a b : UInt8} : a ≤ b ↔ (a.toNat : Int) ≤ (b.toNat : Int) := by rw [UInt8.le_iff_toNat_le]; omega
theorem u8_eq {a b : UInt8} : a = b ↔ (a.toNat : Int) = (b.toNat : Int) := by rw [← UInt8.toNat_inj]; omega

/-- What a piece of the list gives the walk. -/
theorem piece_cells {w : World} {b o : Nat} {l : List Piece} (h : RdL w 3 pcs (some ⟨b, o, none⟩) l) {k : Nat} (hk : k < l.length) :
    w.cell? ⟨b, o + k * 3, none⟩ = some (.int .u8 l[k].c.toNat) ∧ w.cell? ⟨b, o + k * 3 + 1, none⟩ = some (.bool l[k].dead) ∧ w.cell? ⟨b, o + k * 3 + 2, none⟩ = some (.int .i64 l[k].frm) := by
  have := (h.at_ hk).2
  exact ⟨by simpa using this 0 _ rfl, this 1 _ rfl, this 2 _ rfl⟩

end Go.Proofs.YtpogngdddendiaaDoor
