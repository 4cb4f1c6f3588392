/- Chapter 2's document against the models of package pattern, with no program in sight. No condition. -/
import Derived.Test.YtlhpflilpdceiaaGreatDoorJA
import Derived.Test.YtlhpflilpdceiaaGreatDoorJC
import Derived.Outline
import Derived.Laws.IdiomStrings
import Derived.Deep.CutRange
set_option linter.unusedVariables false
set_option linter.unusedSimpArgs false
namespace Go.Proofs.YtlhpflilpdceiaaGreatDoor

/-- The first living ] of these, from place k on. -/
def closeFrom : List Piece → Nat → Option Nat
  | [], _ => none
  | p :: t, k => if p.isB 93 then some k else closeFrom t (k + 1)
theorem closeFrom_find : ∀ (l : List Piece) (k : Nat), closeFrom l k = (l.findIdx? (·.isB 93)).map (· + k)
  | [], k => by simp [closeFrom]
  | p :: t, k => by
    rw [closeFrom, List.findIdx?_cons]
    cases h : p.isB 93
    · simp only [Bool.false_eq_true, if_false]
      rw [closeFrom_find t (k + 1)]
      cases t.findIdx? (·.isB 93) <;> simp; omega
    · simp
/-- Where the set at place i ends. -/
theorem closes_setEnd (l : List Piece) (i : Nat) : closeFrom (l.drop (i + 2)) (i + 2) = (setEnd (l.drop (i + 1))).map (· + (i + 1)) := by
  rw [closeFrom_find, setEnd, List.drop_drop]
  cases (l.drop (i + 2)).findIdx? (·.isB 93) with
  | none => rw [show i + 1 + 1 = i + 2 by omega]; simp_all
  | some j => rw [show i + 1 + 1 = i + 2 by omega]; simp_all; omega
end Go.Proofs.YtlhpflilpdceiaaGreatDoor

/- The walks over patoisref2.Read and closes: a text's bytes, where a set ends. Bounds on the lengths. -/
set_option linter.unusedVariables false
set_option linter.unusedSimpArgs false
namespace Go.Proofs.YtlhpflilpdceiaaGreatDoor
open Go.RowKit

/-- A byte of live text, as the document keeps it. -/
def bcs (p : Piece) : List Value := [.int .u8 p.c.toNat, .bool p.dead]
theorem bcs_len (p : Piece) : (bcs p).length = 2 := rfl
theorem infoByte2 : (Tryz.prog.info? 77).map (fun i => (i.zero, i.size, i.bytes)) = some (some (.agg #[.int .u8 0, .bool false]), 2, 2) := by kernel_rfl
/-- It returns a row of its own that holds the text's bytes. -/
def ReadRet (s : ByteArray) (w : World) (e : Ending) (w' : World) : Prop := ∃ v, e = .returned v ∧ w'.ownsRow w.heap.size 77 2 v (piecesOf s.data.toList 0).length ((piecesOf s.data.toList 0).flatMap bcs) ∧ Below w.heap.size w w'


set_option maxRecDepth 100000 in
set_option maxHeartbeats 4000000 in
theorem read_any (s : ByteArray) (w : World) (hs : s.size ≤ 4000000) : Calls Tryz.prog 65 #[.string s] w (ReadRet s w) := by
  obtain ⟨i0, hi, hz0, hz1, hz2⟩ := info_parts infoByte2
  go_enter Tryz.func65, Tryz.ntmps65
  go_wp2_with fail
  go_loopw [3, 4] (fun v i wr => ∃ k : Nat, ∃ done : List Piece, k ≤ s.size ∧ i = .int .i64 k ∧ done.length ≤ k ∧ wr.ownsRow w.heap.size 77 2 v done.length (done.flatMap bcs) ∧ Below w.heap.size w wr ∧
      Hid (piecesOf s.data.toList 0 = done ++ piecesOf (s.data.toList.drop k) k))
    (fun _ i _ => s.size - (intOf i).toNat)
  case atStart => exact ⟨0, [], Nat.zero_le _, rfl, Nat.zero_le _, World.ownsRow_nil _ _ _ _, Below.refl _ _, rfl⟩
  case round =>
    obtain ⟨k, done, hk, rfl, hd, hown, hb, HP⟩ := hrel
    by_cases hlt : k < s.size
    · have hdr := bytes_drop s k hlt
      by_cases hc : s[k] = 92
      · have hc0 : ((s[k].toNat : Int) == 92) = true := by rw [hc]; rfl
        by_cases hlt2 : k + 1 < s.size
        · have hdr2 := bytes_drop s (k + 1) hlt2
          have HP2 := Lib.hid (show piecesOf s.data.toList 0 = (done ++ [⟨s[k + 1], true, k⟩]) ++ piecesOf (s.data.toList.drop (k + 1 + 1)) (k + 1 + 1) from by
            have := HP.out
            rw [hdr, hdr2, hc] at this
            simpa [piecesOf] using this)
          clear hdr hdr2 HP hc
          go_wp2_with (at_builtin; refine wpList_push rfl _ _ _ rfl Tryz.underlying74 hi hz0 hz1 hz2 rfl (by decide) hown rfl rfl rfl (by simp [Value.oneCell']) (by omega) (by decide) hb.size ?_; intro A' c' w1 hown1 hb1 hoo1)
          go_roundw
          case rel => exact ⟨k + 1 + 1, done ++ [⟨s[k + 1], true, k⟩], by omega, by go_num, by simp; omega, by simpa [bcs] using hown1, hb.trans hb1, HP2⟩
          case measure => simp [intOf]; omega
        · have hend : s.data.toList.drop (k + 1) = [] := by rw [show k + 1 = s.size by omega]; exact bytes_end s
          have HP2 := Lib.hid (show piecesOf s.data.toList 0 = (done ++ [⟨92, true, k⟩]) ++ piecesOf (s.data.toList.drop (k + 1)) (k + 1) from by
            have := HP.out
            rw [hdr, hend, hc] at this
            rw [hend]
            simpa [piecesOf] using this)
          have h92 : s[k].toNat = 92 := by rw [hc]; rfl
          clear hdr hend HP hc
          go_wp2_with (at_builtin; refine wpList_push rfl _ _ _ rfl Tryz.underlying74 hi hz0 hz1 hz2 rfl (by decide) hown rfl rfl rfl (by simp [Value.oneCell']) (by omega) (by decide) hb.size ?_; intro A' c' w1 hown1 hb1 hoo1)
          go_roundw
          case rel => exact ⟨k + 1, done ++ [⟨92, true, k⟩], by omega, by go_num, by simp; omega, by simpa [bcs, h92] using hown1, hb.trans hb1, HP2⟩
          case measure => simp [intOf]; omega
      · have hc0 : ((s[k].toNat : Int) == 92) = false := by
          rw [beq_eq_false_iff_ne]
          intro h
          exact hc (UInt8.toNat_inj.1 (by rw [show (92 : UInt8).toNat = 92 from rfl]; omega))
        have HP2 := Lib.hid (show piecesOf s.data.toList 0 = (done ++ [⟨s[k], false, k⟩]) ++ piecesOf (s.data.toList.drop (k + 1)) (k + 1) from by
          have := HP.out
          rw [hdr] at this
          simpa [piecesOf_ne hc] using this)
        clear hdr HP hc
        go_wp2_with (at_builtin; refine wpList_push rfl _ _ _ rfl Tryz.underlying74 hi hz0 hz1 hz2 rfl (by decide) hown rfl rfl rfl (by simp [Value.oneCell']) (by omega) (by decide) hb.size ?_; intro A' c' w1 hown1 hb1 hoo1)
        go_roundw
        case rel => exact ⟨k + 1, done ++ [⟨s[k], false, k⟩], by omega, by go_num, by simp; omega, by simpa [bcs] using hown1, hb.trans hb1, HP2⟩
        case measure => simp [intOf]; omega
    · obtain rfl : s.size = k := by omega
      have hend := bytes_end s
      have HP2 := Lib.hid (show piecesOf s.data.toList 0 = done from by
        have := HP.out
        rw [hend] at this
        simpa [piecesOf] using this)
      clear hend HP
      go_wp2_with fail
      go_ret
      refine ⟨_, rfl, ?_, hb⟩
      rw [HP2.out]
      exact hown

/-- Where the first living ] from place k on lies; -1: there is none. -/
def closeI (l : List Piece) (k : Nat) : Int := match closeFrom l k with
  | some j => j
  | none => -1
theorem closeI_nil (k : Nat) : closeI [] k = -1 := rfl
theorem closeI_cons (p : Piece) (t : List Piece) (k : Nat) : closeI (p :: t) k = if p.isB 93 then (k : Int) else closeI t (k + 1) := by
  unfold closeI
  rw [closeFrom]
  cases p.isB 93 <;> rfl
set_option maxHeartbeats 2000000 in
theorem closes_any (A : Option Addr) (c : Nat) (i : Nat) (l : List Piece) (w : World) (hl : RdL w 2 bcs A l) (hn : l.length ≤ 4000000) (hi : i ≤ 4000000) :
    Calls Tryz.prog 76 #[.slice A l.length c, .int .i64 i] w fun e w' => e = .returned (.int .i64 (closeI (l.drop (i + 2)) (i + 2))) ∧ w' = w := by
  obtain ⟨m, hm⟩ : ∃ m, m = l.length := ⟨_, rfl⟩
  have HM := Lib.hid hm
  rw [← hm] at hn ⊢
  clear hm
  go_enter Tryz.func76, Tryz.ntmps76
  go_wp2_with fail
  go_loopw [5] (fun v wr => ∃ k : Nat, i + 2 ≤ k ∧ k ≤ m + i + 2 ∧ v = .int .i64 k ∧ w = wr ∧ Hid (closeI (l.drop (i + 2)) (i + 2) = closeI (l.drop k) k)) (fun v _ => m + i + 3 - (intOf v).toNat)
  case atStart => exact ⟨i + 2, by omega, by omega, by go_num, rfl, rfl⟩
  case round =>
    obtain ⟨k, hk1, hk2, rfl, rfl, HC⟩ := hrel
    by_cases hlt : k < m
    · have hlt' : k < l.length := by rw [← HM.out]; exact hlt
      obtain ⟨b, o, rfl, _⟩ := hl.addr (by omega)
      have c0 := (hl.at_ hlt').2 0 _ rfl
      have c1 := (hl.at_ hlt').2 1 _ rfl
      simp only [Nat.add_zero] at c0
      have HN := Lib.hid (show closeI (l.drop (i + 2)) (i + 2) = if l[k].isB 93 then (k : Int) else closeI (l.drop (k + 1)) (k + 1) by
        rw [HC.out, List.drop_eq_getElem_cons hlt', closeI_cons])
      obtain ⟨cc, hcc⟩ : ∃ cc, ((l[k].c.toNat : Int) == 93) = cc := ⟨_, rfl⟩
      obtain ⟨dd, hdd⟩ : ∃ dd, l[k].dead = dd := ⟨_, rfl⟩
      have HB := Lib.hid (show l[k].isB 93 = (cc && !dd) by unfold Piece.isB; rw [hcc, hdd])
      rw [hdd] at c1
      rw [HB.out] at HN
      generalize l[k].c.toNat = cn at *
      clear hdd HB HC
      cases cc
      · go_wp2_with fail
        go_roundw
        case rel => exact ⟨k + 1, by omega, by omega, by go_num, trivial, Lib.hid (by rw [HN.out]; rfl)⟩
        case measure => simp [intOf]; omega
      · cases dd
        · go_wp2_with fail
          go_ret
          exact ⟨congrArg (fun z => Ending.returned (Value.int .i64 z)) (by rw [HN.out]; rfl), rfl⟩
        · go_wp2_with fail
          go_roundw
          case rel => exact ⟨k + 1, by omega, by omega, by go_num, trivial, Lib.hid (by rw [HN.out]; rfl)⟩
          case measure => simp [intOf]; omega
    · have HF := Lib.hid (show closeI (l.drop (i + 2)) (i + 2) = -1 by rw [HC.out, List.drop_of_length_le (by rw [← HM.out]; omega)]; rfl)
      go_wp2_with fail
      go_ret
      exact ⟨congrArg (fun z => Ending.returned (Value.int .i64 z)) HF.out.symm, rfl⟩
end Go.Proofs.YtlhpflilpdceiaaGreatDoor

/- The walks over patoisref2.Live, Plain, Escape: they say what package pattern's say. Bounds on the lengths. -/
set_option linter.unusedVariables false
set_option linter.unusedSimpArgs false
namespace Go.Proofs.YtlhpflilpdceiaaGreatDoor
open Go.RowKit

theorem name_ret2 {a b : Bool} (h : a = b) : Ending.returned (.bool a) = .returned (.bool b) := by rw [h]
theorem ReadRet.rd {s : ByteArray} {w : World} {e : Ending} {w' : World} (h : ReadRet s w e w') : ∃ A c, e = .returned (.slice A (piecesOf s.data.toList 0).length c) ∧ RdL w' 2 bcs A (piecesOf s.data.toList 0) ∧ Below w.heap.size w w' := by
  obtain ⟨v, rfl, h1, h2⟩ := h
  obtain ⟨A, c, rfl, _, _, h3, _⟩ := RdL.of_own bcs_len h1 rfl
  exact ⟨A, c, rfl, h3, h2⟩
theorem closeI_nonneg (l : List Piece) (i : Nat) : decide (0 ≤ closeI (l.drop (i + 2)) (i + 2)) = (setEnd (l.drop (i + 1))).isSome := by
  unfold closeI
  rw [closes_setEnd]
  cases setEnd (l.drop (i + 1)) with
  | none => rfl
  | some j => simp; omega
theorem liveP_dead {p : Piece} (h : p.dead = true) (t : List Piece) : liveP (p :: t) = liveP t := by simp [liveP, Piece.isB, h]

set_option maxRecDepth 100000 in
set_option maxHeartbeats 4000000 in
theorem live2_any (s : ByteArray) (w : World) (hs : s.size ≤ 1000000) : Calls Tryz.prog 48 #[.string s] w (Ret w (.bool (liveL s.data.toList))) := by
  have RC := Lib.hid (read_any s w (by omega))
  have hpl := piecesOf_length_le s.data.toList 0
  have hsz : s.data.toList.length = s.size := rfl
  have HL := Lib.hid (show liveL s.data.toList = liveP (piecesOf s.data.toList 0) from rfl)
  go_enter Tryz.func48, Tryz.ntmps48
  go_wp2_with fail
  refine RC.out.mono ?_
  intro e w1 h1
  obtain ⟨A, c, rfl, hrd, hb⟩ := h1.rd
  clear RC
  have hll : (piecesOf s.data.toList 0).length ≤ 1000000 := by omega
  generalize piecesOf s.data.toList 0 = L at *
  generalize liveL s.data.toList = R at *
  obtain ⟨m, hm⟩ : ∃ m, m = L.length := ⟨_, rfl⟩
  rw [← hm] at hll ⊢
  have HM := Lib.hid hm
  clear hm hpl hsz
  go_wp2_with fail
  go_loopw [4] (fun v wr => ∃ k : Nat, k ≤ m ∧ v = .int .i64 k ∧ w1 = wr ∧ Hid (R = liveP (L.drop k))) (fun v _ => m - (intOf v).toNat)
  case atStart => exact ⟨0, Nat.zero_le _, rfl, rfl, Lib.hid HL.out⟩
  case round =>
    obtain ⟨k, hk, rfl, rfl, HR⟩ := hrel
    by_cases hlt : k < m
    · have hlt' : k < L.length := by rw [← HM.out]; exact hlt
      obtain ⟨b, o, rfl, _⟩ := hrd.addr (by omega)
      have c0 := (hrd.at_ hlt').2 0 _ rfl
      have c1 := (hrd.at_ hlt').2 1 _ rfl
      simp only [Nat.add_zero] at c0
      have CC := Lib.hid (closes_any (some ⟨b, o, none⟩) c k L w1 hrd (by rw [← HM.out]; omega) (by omega))
      rw [← HM.out] at CC
      have HN := Lib.hid (closeI_nonneg L k)
      have HP := Lib.hid (show R = liveP (L[k] :: L.drop (k + 1)) by rw [HR.out, List.drop_eq_getElem_cons hlt'])
      generalize closeI (L.drop (k + 2)) (k + 2) = Z at *
      obtain ⟨p, hp⟩ : ∃ p, p = L[k] := ⟨_, rfl⟩
      rw [← hp] at c0 c1 HP
      obtain ⟨pc, pd, pf⟩ := p
      simp only at c0 c1
      clear hp HR
      cases pd
      case true =>
        have HP2 := Lib.hid (show R = liveP (L.drop (k + 1)) by rw [HP.out, liveP_dead rfl])
        go_wp2_with fail
        go_roundw
        case rel => exact ⟨k + 1, by omega, by go_num, trivial, HP2⟩
        case measure => simp [intOf]; omega
      case false =>
        obtain ⟨q, hq⟩ : ∃ q, (setEnd (L.drop (k + 1))).isSome = q := ⟨_, rfl⟩
        rw [hq] at HN
        obtain ⟨a1, ha1⟩ : ∃ a, ((pc.toNat : Int) == 42) = a := ⟨_, rfl⟩
        obtain ⟨a2, ha2⟩ : ∃ a, ((pc.toNat : Int) == 63) = a := ⟨_, rfl⟩
        obtain ⟨a3, ha3⟩ : ∃ a, ((pc.toNat : Int) == 91) = a := ⟨_, rfl⟩
        have HP2 := Lib.hid (show R = (a1 || a2 || (a3 && q) || liveP (L.drop (k + 1))) by
          rw [HP.out, liveP, hq]
          simp only [Piece.isB, Bool.not_false, Bool.and_true, ha1, ha2, ha3])
        clear hq HP
        generalize pc.toNat = pn at *
        cases a1
        case true =>
          go_wp2_with fail
          go_ret
          exact ⟨name_ret2 (by rw [HP2.out]; rfl), hb⟩
        case false =>
        cases a2
        case true =>
          go_wp2_with fail
          go_ret
          exact ⟨name_ret2 (by rw [HP2.out]; rfl), hb⟩
        case false =>
        cases a3
        case false =>
          go_wp2_with fail
          go_roundw
          case rel => exact ⟨k + 1, by omega, by go_num, trivial, Lib.hid (by rw [HP2.out]; rfl)⟩
          case measure => simp [intOf]; omega
        case true =>
          have hz := HN.out
          clear HN
          go_wp2_with fail
          refine CC.out.mono ?_
          rintro e w2 ⟨rfl, rfl⟩
          cases q
          case true =>
            go_wp2_with fail
            go_ret
            exact ⟨name_ret2 (by rw [HP2.out]; rfl), hb⟩
          case false =>
            go_wp2_with fail
            go_roundw
            case rel => exact ⟨k + 1, by omega, by go_num, trivial, Lib.hid (by rw [HP2.out]; rfl)⟩
            case measure => simp [intOf]; omega
    · have HF := Lib.hid (show R = false by rw [HR.out, List.drop_of_length_le (by rw [← HM.out]; omega)]; rfl)
      go_wp2_with fail
      go_ret
      exact ⟨name_ret2 HF.out.symm, hb⟩
end Go.Proofs.YtlhpflilpdceiaaGreatDoor

/- The walks over patoisref2.Plain, Escape: they say what package pattern's say. Bounds on the lengths. -/
set_option linter.unusedVariables false
set_option linter.unusedSimpArgs false
namespace Go.Proofs.YtlhpflilpdceiaaGreatDoor
open Go.RowKit

def byc (c : UInt8) : List Value := [.int .u8 c.toNat]
theorem byc_len (c : UInt8) : (byc c).length = 1 := rfl
theorem infoU8 : (Tryz.prog.info? 5).map (fun i => (i.zero, i.size, i.bytes)) = some (some (.int .u8 0), 1, 1) := by kernel_rfl
/-- The text of a row of bytes. -/
theorem conv_any {W : World} {base n c : Nat} {A : Option Addr} {l : List UInt8} (h : W.ownsRow base 5 1 (.slice A n c) n (l.flatMap byc)) (hn : n = l.length) :
    (convert 55 9 (.slice A n c)).run Tryz.prog W = .ok (.string ⟨l.toArray⟩) W := by
  subst hn
  rcases h.2 with ⟨he, h0⟩ | ⟨g, cap, cur, he, hb, hg, hnc, hcm, hcs, ht⟩
  · obtain rfl := List.eq_nil_of_length_eq_zero h0
    simp only [Value.slice.injEq] at he
    obtain ⟨rfl, _, rfl⟩ := he
    kernel_rfl
  · simp only [Value.slice.injEq] at he
    obtain ⟨rfl, _, rfl⟩ := he
    refine run_convert_bytes_back W _ _ 5 ⟨g, 0, none⟩ c l Tryz.underlying55 Tryz.underlying5 Tryz.underlying9 fun j hj => ?_
    have h1 := h.cellAt j (by omega)
    rw [Addr.add_lit, Nat.zero_add]
    rw [h1]
    have := flat_at (enc := byc) byc_len l j hj 0 _ rfl
    simpa [byc] using this

set_option maxRecDepth 100000 in
set_option maxHeartbeats 4000000 in
theorem plain2_any (s : ByteArray) (w : World) (hs : s.size ≤ 1000000) : Calls Tryz.prog 42 #[.string s] w (Ret w (.string ⟨(plainL s.data.toList).toArray⟩)) := by
  have RC := Lib.hid (read_any s w (by omega))
  obtain ⟨i0, hi, hz0, hz1, hz2⟩ := info_parts infoU8
  have hpl := piecesOf_length_le s.data.toList 0
  have hsz : s.data.toList.length = s.size := rfl
  have HL := Lib.hid (show plainL s.data.toList = (piecesOf s.data.toList 0).map (·.c) from rfl)
  go_enter Tryz.func42, Tryz.ntmps42
  go_wp2_with fail
  refine RC.out.mono ?_
  intro e w1 h1
  obtain ⟨A, c, rfl, hrd, hb⟩ := h1.rd
  clear RC
  have hll : (piecesOf s.data.toList 0).length ≤ 1000000 := by omega
  generalize piecesOf s.data.toList 0 = L at *
  generalize plainL s.data.toList = R at *
  obtain ⟨m, hm⟩ : ∃ m, m = L.length := ⟨_, rfl⟩
  rw [← hm] at hll ⊢
  have HM := Lib.hid hm
  clear hm hpl hsz
  go_wp2_with fail
  go_loopw [3, 5] (fun v iv wr => ∃ (k : Nat) (A' : Option Addr) (c' : Nat), k ≤ m ∧ iv = .int .i64 k ∧ v = .slice A' k c' ∧ wr.ownsRow w1.heap.size 5 1 (.slice A' k c') k (((L.take k).map (·.c)).flatMap byc) ∧ Below w1.heap.size w1 wr) (fun _ iv _ => m - (intOf iv).toNat)
  case atStart => exact ⟨0, none, 0, Nat.zero_le _, rfl, rfl, World.ownsRow_nil _ _ _ _, Below.refl _ _⟩
  case round =>
    obtain ⟨k, A', c', hk, rfl, rfl, hown, hbr⟩ := hrel
    by_cases hlt : k < m
    · have hlt' : k < L.length := by rw [← HM.out]; exact hlt
      obtain ⟨b, o, rfl, _⟩ := hrd.addr (by omega)
      have c0 := cell_keep hbr ((hrd.at_ hlt').2 0 _ rfl)
      simp only [Nat.add_zero] at c0
      have HN := Lib.hid (show ((L.take (k + 1)).map (·.c)).flatMap byc = ((L.take k).map (·.c)).flatMap byc ++ byc L[k].c by rw [List.take_succ_eq_append_getElem hlt', List.map_append, List.flatMap_append]; simp only [List.map_cons, List.map_nil, List.flatMap_cons, List.flatMap_nil, List.append_nil])
      obtain ⟨pc, hpc⟩ : ∃ pc, pc = L[k].c := ⟨_, rfl⟩
      rw [← hpc] at c0 HN
      clear hpc
      go_wp2_with (at_builtin; refine wpList_push rfl _ _ _ rfl Tryz.underlying55 hi hz0 hz1 hz2 rfl (by decide) hown rfl rfl rfl (by simp [Value.oneCell']) (by omega) (by decide) hbr.size ?_; intro A2 c2 w2 ho2 hb2 hoo2)
      go_roundw
      case rel => exact ⟨k + 1, A2, c2, by omega, by go_num, rfl, by rw [HN.out]; exact ho2, hbr.trans hb2⟩
      case measure => simp [intOf]; omega
    · obtain rfl : m = k := by omega
      have hcv := conv_any hown (by simp [← HM.out])
      have HF := Lib.hid (show (L.take m).map (·.c) = R by rw [HM.out, List.take_length, HL.out])
      rw [HF.out] at hcv
      have hbw := hb.trans (hbr.mono hb.size)
      go_wp2_with fail
      go_ret
      exact ⟨rfl, hbw⟩

theorem blank2_any (c : UInt8) (w : World) : Calls Tryz.prog 60 #[.int .u8 c.toNat] w fun e w' => e = .returned (.bool (blankB c)) ∧ w' = w := by
  have HB := Lib.hid (show blankB c = (((c.toNat : Int) == 32) || ((c.toNat : Int) == 9) || ((c.toNat : Int) == 10)) by
    rw [show (32 : Int) = ((32 : Nat) : Int) from rfl, show (9 : Int) = ((9 : Nat) : Int) from rfl, show (10 : Int) = ((10 : Nat) : Int) from rfl, u8_beq c 32 (by decide), u8_beq c 9 (by decide), u8_beq c 10 (by decide)]
    rfl)
  generalize blankB c = R at *
  cases h1 : ((c.toNat : Int) == 32)
  all_goals cases h2 : ((c.toNat : Int) == 9)
  all_goals cases h3 : ((c.toNat : Int) == 10)
  all_goals
    rw [h1, h2, h3] at HB
    generalize c.toNat = n at *
    go_enter Tryz.func60, Tryz.ntmps60
    go_wp2_with fail
    go_ret
    exact ⟨name_ret2 (by rw [HB.out]; rfl), rfl⟩
theorem special2_any (c : UInt8) (w : World) : Calls Tryz.prog 64 #[.int .u8 c.toNat] w fun e w' => e = .returned (.bool (escB c)) ∧ w' = w := by
  have BC := Lib.hid (fun W => blank2_any c W)
  have HB := Lib.hid (show escB c = (((c.toNat : Int) == 42) || ((c.toNat : Int) == 63) || ((c.toNat : Int) == 91) || ((c.toNat : Int) == 93) || ((c.toNat : Int) == 92) || blankB c) by
    rw [show (42 : Int) = ((42 : Nat) : Int) from rfl, show (63 : Int) = ((63 : Nat) : Int) from rfl, show (91 : Int) = ((91 : Nat) : Int) from rfl, show (93 : Int) = ((93 : Nat) : Int) from rfl, show (92 : Int) = ((92 : Nat) : Int) from rfl, u8_beq c 42 (by decide), u8_beq c 63 (by decide), u8_beq c 91 (by decide), u8_beq c 93 (by decide), u8_beq c 92 (by decide)]
    rfl)
  generalize escB c = R at *
  generalize blankB c = bb at *
  generalize c.toNat = n at *
  cases h1 : ((n : Int) == 42)
  case true =>
    rw [h1] at HB
    go_enter Tryz.func64, Tryz.ntmps64
    go_wp2_with fail
    go_ret
    exact ⟨name_ret2 (by rw [HB.out]; rfl), rfl⟩
  case false =>
  cases h2 : ((n : Int) == 63)
  case true =>
    rw [h1, h2] at HB
    go_enter Tryz.func64, Tryz.ntmps64
    go_wp2_with fail
    go_ret
    exact ⟨name_ret2 (by rw [HB.out]; rfl), rfl⟩
  case false =>
  cases h3 : ((n : Int) == 91)
  case true =>
    rw [h1, h2, h3] at HB
    go_enter Tryz.func64, Tryz.ntmps64
    go_wp2_with fail
    go_ret
    exact ⟨name_ret2 (by rw [HB.out]; rfl), rfl⟩
  case false =>
  cases h4 : ((n : Int) == 93)
  case true =>
    rw [h1, h2, h3, h4] at HB
    go_enter Tryz.func64, Tryz.ntmps64
    go_wp2_with fail
    go_ret
    exact ⟨name_ret2 (by rw [HB.out]; rfl), rfl⟩
  case false =>
  cases h5 : ((n : Int) == 92)
  case true =>
    rw [h1, h2, h3, h4, h5] at HB
    go_enter Tryz.func64, Tryz.ntmps64
    go_wp2_with fail
    go_ret
    exact ⟨name_ret2 (by rw [HB.out]; rfl), rfl⟩
  case false =>
    rw [h1, h2, h3, h4, h5] at HB
    go_enter Tryz.func64, Tryz.ntmps64
    go_wp2_with fail
    refine (BC.out _).mono ?_
    rintro e w1 ⟨rfl, rfl⟩
    go_wp2_with fail
    go_ret
    exact ⟨name_ret2 (by rw [HB.out]; rfl), rfl⟩
end Go.Proofs.YtlhpflilpdceiaaGreatDoor

/- The walks over patoisref2.Escape and has: they say what package pattern's say. Bounds on the lengths. -/
set_option linter.unusedVariables false
set_option linter.unusedSimpArgs false
namespace Go.Proofs.YtlhpflilpdceiaaGreatDoor
open Go.RowKit

theorem take_u8 (s : ByteArray) (k : Nat) (h : k < s.size) : s.data.toList.take (k + 1) = s.data.toList.take k ++ [s[k]] := by
  rw [List.take_succ_eq_append_getElem h]; rfl
theorem esc_snoc (l : List UInt8) (c : UInt8) : escapeL (l ++ [c]) = escapeL l ++ (if escB c then [92, c] else [c]) := by simp [escapeL]
set_option maxRecDepth 100000 in
set_option maxHeartbeats 4000000 in
theorem escape2_any (s : ByteArray) (w : World) (hs : s.size ≤ 1000000) : Calls Tryz.prog 41 #[.string s] w (Ret w (.string ⟨(escapeL s.data.toList).toArray⟩)) := by
  obtain ⟨i0, hi, hz0, hz1, hz2⟩ := info_parts infoU8
  have SC := Lib.hid (fun (c : UInt8) W => special2_any c W)
  go_enter Tryz.func41, Tryz.ntmps41
  go_wp2_with fail
  go_loopw [3, 4] (fun v iv wr => ∃ (k n : Nat) (A' : Option Addr) (c' : Nat), k ≤ s.size ∧ n ≤ 2 * k ∧ iv = .int .i64 k ∧ v = .slice A' n c' ∧ wr.ownsRow w.heap.size 5 1 (.slice A' n c') n ((escapeL (s.data.toList.take k)).flatMap byc) ∧ Below w.heap.size w wr ∧ Hid (n = (escapeL (s.data.toList.take k)).length)) (fun _ iv _ => s.size - (intOf iv).toNat)
  case atStart => exact ⟨0, 0, none, 0, Nat.zero_le _, Nat.zero_le _, rfl, rfl, World.ownsRow_nil _ _ _ _, Below.refl _ _, rfl⟩
  case round =>
    obtain ⟨k, n, A', c', hk, hn, rfl, rfl, hown, hb, HN⟩ := hrel
    by_cases hlt : k < s.size
    · have HT := Lib.hid (take_u8 s k hlt)
      obtain ⟨d, hd⟩ : ∃ d, d = s[k] := ⟨_, rfl⟩
      have HE := Lib.hid (show escapeL (s.data.toList.take (k + 1)) = escapeL (s.data.toList.take k) ++ (if escB d then [92, d] else [d]) by rw [HT.out, esc_snoc, hd])
      have SD := Lib.hid (fun W => SC.out d W)
      obtain ⟨b, hbb⟩ : ∃ b, b = escB d := ⟨_, rfl⟩
      rw [← hbb] at HE SD
      have hd' : s[k] = d := hd.symm
      have HD := Lib.hid hd'
      clear hbb hd hd' HT
      go_wp2_with fail
      rw [HD.out]
      refine (SD.out _).mono ?_
      rintro e w1 ⟨rfl, rfl⟩
      cases b
      · go_wp2_with (at_builtin; refine wpList_push rfl _ _ _ rfl Tryz.underlying55 hi hz0 hz1 hz2 rfl (by decide) hown rfl rfl rfl (by simp [Value.oneCell']) (by omega) (by decide) (hb).size ?_; intro A2 c2 w2 ho2 hb2 hoo2)
        go_roundw
        case rel => exact ⟨k + 1, n + 1, A2, c2, by omega, by omega, by go_num, rfl, by rw [HE.out]; simpa [byc, HD.out] using ho2, hb.trans hb2, Lib.hid (by rw [HE.out, List.length_append, ← HN.out]; rfl)⟩
        case measure => simp [intOf]; omega
      · go_upto_region 7 with (at_builtin; refine wpList_push rfl _ _ _ rfl Tryz.underlying55 hi hz0 hz1 hz2 rfl (by decide) hown rfl rfl rfl (by simp [Value.oneCell']) (by omega) (by decide) hb.size ?_; intro A2 c2 w2 ho2 hb2 hoo2)
        have hb12 := hb.trans hb2
        clear hown
        go_wp2_with (at_builtin; refine wpList_push rfl _ _ _ rfl Tryz.underlying55 hi hz0 hz1 hz2 rfl (by decide) ho2 rfl rfl rfl (by simp [Value.oneCell']) (by omega) (by decide) (hb12).size ?_; intro A3 c3 w3 ho3 hb3 hoo3)
        go_roundw
        case rel => exact ⟨k + 1, n + 1 + 1, A3, c3, by omega, by omega, by go_num, rfl, by rw [HE.out]; simpa [byc, HD.out] using ho3, hb12.trans hb3, Lib.hid (by rw [HE.out, List.length_append, ← HN.out]; rfl)⟩
        case measure => simp [intOf]; omega
    · obtain rfl : s.size = k := by omega
      have hcv := conv_any hown HN.out
      rw [show s.data.toList.take s.size = s.data.toList from List.take_of_length_le (Nat.le_refl _)] at hcv
      go_wp2_with fail
      go_ret
      exact ⟨rfl, hb⟩
end Go.Proofs.YtlhpflilpdceiaaGreatDoor

/- The walk over patoisref2.has: whether a byte is in a set. Bounds on the lengths. -/
set_option linter.unusedVariables false
set_option linter.unusedSimpArgs false
namespace Go.Proofs.YtlhpflilpdceiaaGreatDoor
open Go.RowKit

theorem u8_le2 {a b : UInt8} : a ≤ b ↔ (a.toNat : Int) ≤ (b.toNat : Int) := by rw [UInt8.le_iff_toNat_le]; omega
theorem u8_eq2 {a b : UInt8} : a = b ↔ (a.toNat : Int) = (b.toNat : Int) := by rw [← UInt8.toNat_inj]; omega
set_option maxRecDepth 100000 in
set_option maxHeartbeats 4000000 in
theorem has_any (A : Option Addr) (cap : Nat) (l : List Piece) (c : UInt8) (w : World) (hl : RdL w 2 bcs A l) (hn : l.length ≤ 4000000) :
    Calls Tryz.prog 94 #[.slice A l.length cap, .int .u8 c.toNat] w fun e w' => e = .returned (.bool (amongL l c)) ∧ w' = w := by
  obtain ⟨m, hm⟩ : ∃ m, m = l.length := ⟨_, rfl⟩
  have HM := Lib.hid hm
  rw [← hm] at hn ⊢
  clear hm
  go_enter Tryz.func94, Tryz.ntmps94
  go_wp2_with fail
  go_loopw [5] (fun v wr => ∃ k : Nat, k ≤ m ∧ v = .int .i64 k ∧ w = wr ∧ Hid (amongL l c = amongL (l.drop k) c)) (fun v _ => m - (intOf v).toNat)
  case atStart => exact ⟨0, Nat.zero_le _, rfl, rfl, rfl⟩
  case round =>
    obtain ⟨k, hk, rfl, rfl, H⟩ := hrel
    by_cases hlt : k < m
    · have hlt' : k < l.length := by rw [← HM.out]; exact hlt
      obtain ⟨b, o, rfl, _⟩ := hl.addr (by omega)
      have c0 := (hl.at_ hlt').2 0 _ rfl
      simp only [Nat.add_zero] at c0
      have HPl := Lib.hid (show (∀ q r t', l.drop (k + 1) = q :: r :: t' → q.isB 45 = false) → amongL l c = if l[k].c = c then true else amongL (l.drop (k + 1)) c from by
        intro h
        rw [H.out, List.drop_eq_getElem_cons hlt']
        exact amongL_plain h)
      by_cases h2 : k + 2 < m
      · have h2' : k + 2 < l.length := by rw [← HM.out]; exact h2
        have d0 := (hl.at_ (show k + 1 < l.length by omega)).2 0 _ rfl
        have d1 := (hl.at_ (show k + 1 < l.length by omega)).2 1 _ rfl
        have e0 := (hl.at_ h2').2 0 _ rfl
        simp only [Nat.add_zero] at d0 e0
        have hd1 : l.drop (k + 1) = l[k + 1] :: l[k + 2] :: l.drop (k + 3) := by
          rw [List.drop_eq_getElem_cons (show k + 1 < l.length by omega), List.drop_eq_getElem_cons h2']
        obtain ⟨p, hp⟩ : ∃ p, p = l[k] := ⟨_, rfl⟩
        obtain ⟨q, hq⟩ : ∃ q, q = l[k + 1] := ⟨_, rfl⟩
        obtain ⟨r, hr2⟩ : ∃ r, r = l[k + 2] := ⟨_, rfl⟩
        have hri := H.out
        rw [List.drop_eq_getElem_cons hlt', hd1, ← hp, ← hq, ← hr2] at hri
        rw [← hq, ← hr2] at hd1
        rw [← hp] at HPl c0
        rw [← hq] at d0 d1
        rw [← hr2] at e0
        have HD := Lib.hid hd1
        have HR := Lib.hid hri
        clear hd1 hri hp hq hr2 H
        obtain ⟨qc, hqc⟩ : ∃ qc, ((q.c.toNat : Int) == 45) = qc := ⟨_, rfl⟩
        obtain ⟨qd, hqd⟩ : ∃ qd, q.dead = qd := ⟨_, rfl⟩
        have HB := Lib.hid (show q.isB 45 = (qc && !qd) by unfold Piece.isB; rw [hqc, hqd])
        rw [hqd] at d1
        generalize q.c.toNat = qn at *
        have hpl : q.isB 45 = false → amongL l c = if p.c = c then true else amongL (l.drop (k + 1)) c := fun hB => HPl.out (by
          intro q' r' t' h
          rw [HD.out] at h
          injection h with h _
          rw [← h]; exact hB)
        have HPL := Lib.hid hpl
        clear hqd hpl HPl
        cases qc
        case false =>
          have HP := Lib.hid (HPL.out (by rw [HB.out]; rfl))
          clear HPL HB HD HR
          by_cases hpc : (p.c.toNat : Int) = c.toNat
          · have hpb : ((p.c.toNat : Int) == c.toNat) = true := by simpa using hpc
            have hpe := Lib.hid (u8_eq2.2 hpc)
            clear hpc
            go_wp2_with fail
            go_ret
            exact ⟨name_ret2 (by rw [HP.out, if_pos hpe.out]), rfl⟩
          · have hpb : ((p.c.toNat : Int) == c.toNat) = false := by simpa using hpc
            have hpe := Lib.hid (fun h => hpc (u8_eq2.1 h))
            clear hpc
            go_wp2_with fail
            go_roundw
            case rel => exact ⟨k + 1, by omega, by go_num, trivial, Lib.hid (by rw [HP.out, if_neg hpe.out])⟩
            case measure => simp [intOf]; omega
        case true =>
        cases qd
        case true =>
          have HP := Lib.hid (HPL.out (by rw [HB.out]; rfl))
          clear HPL HB HD HR
          by_cases hpc : (p.c.toNat : Int) = c.toNat
          · have hpb : ((p.c.toNat : Int) == c.toNat) = true := by simpa using hpc
            have hpe := Lib.hid (u8_eq2.2 hpc)
            clear hpc
            go_wp2_with fail
            go_ret
            exact ⟨name_ret2 (by rw [HP.out, if_pos hpe.out]), rfl⟩
          · have hpb : ((p.c.toNat : Int) == c.toNat) = false := by simpa using hpc
            have hpe := Lib.hid (fun h => hpc (u8_eq2.1 h))
            clear hpc
            go_wp2_with fail
            go_roundw
            case rel => exact ⟨k + 1, by omega, by go_num, trivial, Lib.hid (by rw [HP.out, if_neg hpe.out])⟩
            case measure => simp [intOf]; omega
        case false =>
          have HP := Lib.hid (show amongL l c = if p.c ≤ c ∧ c ≤ r.c then true else amongL (l.drop (k + 3)) c from by rw [HR.out, amongL_range (by rw [HB.out]; rfl)])
          clear HPL HB HD HR
          by_cases h3 : (p.c.toNat : Int) ≤ c.toNat
          · by_cases h4 : (c.toNat : Int) ≤ r.c.toNat
            · go_wp2_with fail
              go_ret
              exact ⟨name_ret2 (by rw [HP.out, if_pos ⟨u8_le2.2 h3, u8_le2.2 h4⟩]), rfl⟩
            · go_wp2_with fail
              go_roundw
              case rel => exact ⟨k + 3, by omega, by go_num, trivial, Lib.hid (by rw [HP.out, if_neg (fun h => by have := u8_le2.1 h.2; omega)])⟩
              case measure => simp [intOf]; omega
          · go_wp2_with fail
            go_roundw
            case rel => exact ⟨k + 3, by omega, by go_num, trivial, Lib.hid (by rw [HP.out, if_neg (fun h => by have := u8_le2.1 h.1; omega)])⟩
            case measure => simp [intOf]; omega
      · have HP := Lib.hid (show amongL l c = if l[k].c = c then true else amongL (l.drop (k + 1)) c from HPl.out (by
          intro q' r' t' h
          have := congrArg List.length h
          rw [List.length_drop, ← HM.out] at this
          simp at this; omega))
        clear HPl H
        obtain ⟨p, hp⟩ : ∃ p, p = l[k] := ⟨_, rfl⟩
        rw [← hp] at HP c0
        clear hp
        by_cases hpc : (p.c.toNat : Int) = c.toNat
        · have hpb : ((p.c.toNat : Int) == c.toNat) = true := by simpa using hpc
          have hpe := Lib.hid (u8_eq2.2 hpc)
          clear hpc
          go_wp2_with fail
          go_ret
          exact ⟨name_ret2 (by rw [HP.out, if_pos hpe.out]), rfl⟩
        · have hpb : ((p.c.toNat : Int) == c.toNat) = false := by simpa using hpc
          have hpe := Lib.hid (fun h => hpc (u8_eq2.1 h))
          clear hpc
          go_wp2_with fail
          go_roundw
          case rel => exact ⟨k + 1, by omega, by go_num, trivial, Lib.hid (by rw [HP.out, if_neg hpe.out])⟩
          case measure => simp [intOf]; omega
    · have HF := Lib.hid (show amongL l c = false by rw [H.out, List.drop_of_length_le (by rw [← HM.out]; omega)]; rfl)
      clear H
      go_wp2_with fail
      go_ret
      exact ⟨name_ret2 HF.out.symm, rfl⟩
end Go.Proofs.YtlhpflilpdceiaaGreatDoor
