/- Live text, patterns and parts as plain functions on lists of bytes (chapter 2), with no program in sight. No condition. -/
import Derived.WalkKit
import Derived.Test.YtpogngdddendiaaDoorProg
import Derived.Test.YtpogngdddendiaaDoorBase
import Derived.WalkSpells
import Derived.WalkLawsBesides
import Derived.Lib.Hide
import Derived.Deep.LoopGhost
import Derived.Deep.DeepFit
import Derived.Outline
set_option linter.unusedVariables false
set_option linter.unusedSimpArgs false
namespace Go.Proofs.YtpogngdddendiaaDoor

structure Piece where
  c : UInt8
  dead : Bool
  frm : Nat
  deriving DecidableEq, Inhabited

def Piece.isB (p : Piece) (d : Int) : Bool := (p.c.toNat : Int) == d && !p.dead
def blankB (c : UInt8) : Bool := c == 32 || c == 9 || c == 10
def Piece.blankB (p : Piece) : Bool := YtpogngdddendiaaDoor.blankB p.c && !p.dead

def piecesOf : List UInt8 → Nat → List Piece
  | [], _ => []
  | c :: t, i =>
    if c == 92 then
      match t with
      | [] => [⟨92, true, i⟩]
      | d :: t' => ⟨d, true, i⟩ :: piecesOf t' (i + 2)
    else ⟨c, false, i⟩ :: piecesOf t (i + 1)

def openOf : List UInt8 → Bool
  | [] => false
  | c :: t =>
    if c == 92 then
      match t with
      | [] => true
      | _ :: t' => openOf t'
    else openOf t

theorem piecesOf_ne {c : UInt8} (h : c ≠ 92) (t : List UInt8) (i : Nat) : piecesOf (c :: t) i = ⟨c, false, i⟩ :: piecesOf t (i + 1) := by rw [piecesOf.eq_def]; simp [h]
theorem piecesOf_esc (d : UInt8) (t : List UInt8) (i : Nat) : piecesOf (92 :: d :: t) i = ⟨d, true, i⟩ :: piecesOf t (i + 2) := by rw [piecesOf.eq_def]; simp
theorem piecesOf_last (i : Nat) : piecesOf [92] i = [⟨92, true, i⟩] := by rw [piecesOf.eq_def]; simp
theorem openOf_ne {c : UInt8} (h : c ≠ 92) (t : List UInt8) : openOf (c :: t) = openOf t := by rw [openOf.eq_def]; simp [h]
theorem openOf_esc (d : UInt8) (t : List UInt8) : openOf (92 :: d :: t) = openOf t := by rw [openOf.eq_def]; simp
theorem openOf_last : openOf [92] = true := by rw [openOf.eq_def]; simp

/-- An induction over live text: as the pieces are cut. -/
theorem text_induct {P : List UInt8 → Prop} (h0 : P []) (h1 : P [92]) (h2 : ∀ d t, P t → P (92 :: d :: t)) (h3 : ∀ c t, c ≠ 92 → P t → P (c :: t)) : ∀ l, P l := by
  intro l
  induction hn : l.length using Nat.strongRecOn generalizing l with
  | _ n ih =>
    match l with
    | [] => exact h0
    | c :: t =>
      by_cases hc : c = 92
      · subst hc
        match t with
        | [] => exact h1
        | d :: t' => exact h2 d t' (ih t'.length (by simp at hn; omega) t' rfl)
      · exact h3 c t hc (ih t.length (by simp at hn; omega) t rfl)

theorem piecesOf_length_le (l : List UInt8) : ∀ i, (piecesOf l i).length ≤ l.length := by
  induction l using text_induct with
  | h0 => intro i; simp [piecesOf]
  | h1 => intro i; simp [piecesOf_last]
  | h2 d t ih => intro i; rw [piecesOf_esc]; have := ih (i + 2); simp; omega
  | h3 c t hc ih => intro i; rw [piecesOf_ne hc]; have := ih (i + 1); simp; omega

/-- where the set ends, the rest being the pieces from place k on -/
def endAt : List Piece → Nat → Int
  | [], _ => -1
  | p :: t, k => if p.isB 93 then k else endAt t (k + 1)

def escB (c : UInt8) : Bool := c == 42 || c == 63 || c == 91 || c == 93 || c == 92 || blankB c
def escapeL (l : List UInt8) : List UInt8 := l.flatMap fun c => if escB c then [92, c] else [c]
def plainL (l : List UInt8) : List UInt8 := (piecesOf l 0).map (·.c)

/-- is a byte one of these, or of their ranges -/
def amongF : Nat → List Piece → UInt8 → Bool
  | 0, _, _ => false
  | _ + 1, [], _ => false
  | f + 1, p :: t, c =>
    match t with
    | q :: r :: t' => if q.isB 45 then (if p.c ≤ c ∧ c ≤ r.c then true else amongF f t' c) else (if p.c = c then true else amongF f t c)
    | _ => if p.c = c then true else amongF f t c
def amongL (l : List Piece) (c : UInt8) : Bool := amongF l.length l c

theorem amongF_fuel : ∀ (f g : Nat) (l : List Piece) (c : UInt8), l.length ≤ f → l.length ≤ g → amongF f l c = amongF g l c
  | 0, 0, _, _, _, _ => rfl
  | 0, g + 1, l, c, h, _ => by
    have : l = [] := List.eq_nil_of_length_eq_zero (by omega)
    subst this; rfl
  | f + 1, 0, l, c, _, h => by
    have : l = [] := List.eq_nil_of_length_eq_zero (by omega)
    subst this; rfl
  | f + 1, g + 1, [], c, _, _ => rfl
  | f + 1, g + 1, [p], c, _, _ => by simp only [amongF]; rw [amongF_fuel f g [] c (by simp) (by simp)]
  | f + 1, g + 1, [p, q], c, hf, hg => by
    simp only [amongF]; rw [amongF_fuel f g [q] c (by simp at hf ⊢; omega) (by simp at hg ⊢; omega)]
  | f + 1, g + 1, p :: q :: r :: t, c, hf, hg => by
    simp only [amongF]
    rw [amongF_fuel f g t c (by simp at hf; omega) (by simp at hg; omega), amongF_fuel f g (q :: r :: t) c (by simp at hf ⊢; omega) (by simp at hg ⊢; omega)]

theorem amongL_nil (c : UInt8) : amongL [] c = false := rfl
theorem amongL_range {p q r : Piece} {t : List Piece} {c : UInt8} (h : q.isB 45 = true) : amongL (p :: q :: r :: t) c = if p.c ≤ c ∧ c ≤ r.c then true else amongL t c := by
  unfold amongL
  simp only [List.length_cons, amongF, h, if_true]
  rw [amongF_fuel (t.length + 1 + 1) t.length t c (by omega) (by omega)]
theorem amongL_plain {p : Piece} {t : List Piece} {c : UInt8} (h : ∀ q r t', t = q :: r :: t' → q.isB 45 = false) : amongL (p :: t) c = if p.c = c then true else amongL t c := by
  unfold amongL
  match t with
  | [] => rfl
  | [q] => simp only [List.length_cons, amongF]
  | q :: r :: t' =>
    have := h q r t' rfl
    simp only [List.length_cons, amongF, this]
    simp

def inL (l : List Piece) (c : UInt8) : Bool :=
  match l with
  | p :: q :: t => if p.isB 94 then !amongL (q :: t) c else amongL l c
  | _ => amongL l c

/-- the parts of a pattern -/
inductive Tok where
  | star
  | any
  | set (l : List Piece)
  | one (c : UInt8)

def Tok.ok : Tok → UInt8 → Bool
  | .star, _ => false
  | .any, _ => true
  | .set l, c => inL l c
  | .one d, c => d == c

/-- how many pieces behind the bracket lie ahead of the bracket's end, if it has one -/
def setEnd (t : List Piece) : Option Nat := ((t.drop 1).findIdx? (·.isB 93)).map (· + 1)

def tokF : Nat → List Piece → List Tok
  | 0, _ => []
  | _ + 1, [] => []
  | f + 1, p :: t =>
    if p.isB 42 then .star :: tokF f t
    else if p.isB 63 then .any :: tokF f t
    else if p.isB 91 then
      match setEnd t with
      | some j => .set (t.take j) :: tokF f (t.drop (j + 1))
      | none => .one p.c :: tokF f t
    else .one p.c :: tokF f t
def toks (l : List Piece) : List Tok := tokF l.length l

theorem tokF_fuel : ∀ (f g : Nat) (l : List Piece), l.length ≤ f → l.length ≤ g → tokF f l = tokF g l
  | 0, 0, _, _, _ => rfl
  | 0, g + 1, l, h, _ => by
    have : l = [] := List.eq_nil_of_length_eq_zero (by omega)
    subst this; rfl
  | f + 1, 0, l, _, h => by
    have : l = [] := List.eq_nil_of_length_eq_zero (by omega)
    subst this; rfl
  | f + 1, g + 1, [], _, _ => rfl
  | f + 1, g + 1, p :: t, hf, hg => by
    simp only [List.length_cons] at hf hg
    simp only [tokF]
    rw [tokF_fuel f g t (by omega) (by omega)]
    cases setEnd t with
    | none => rfl
    | some j => simp only []; rw [tokF_fuel f g (t.drop (j + 1)) (by simp; omega) (by simp; omega)]

theorem toks_nil : toks [] = [] := rfl
theorem toks_star {p : Piece} {t : List Piece} (h : p.isB 42 = true) : toks (p :: t) = .star :: toks t := by
  simp only [toks, List.length_cons, tokF, h, if_true]
theorem toks_any {p : Piece} {t : List Piece} (h0 : p.isB 42 = false) (h : p.isB 63 = true) : toks (p :: t) = .any :: toks t := by
  simp only [toks, List.length_cons, tokF, h0, h, if_true]; simp
theorem toks_set {p : Piece} {t : List Piece} {j : Nat} (h0 : p.isB 42 = false) (h1 : p.isB 63 = false) (h : p.isB 91 = true) (hj : setEnd t = some j) : toks (p :: t) = .set (t.take j) :: toks (t.drop (j + 1)) := by
  simp only [toks, List.length_cons, tokF, h0, h1, h, hj, if_true]
  simp only [Bool.false_eq_true, if_false]
  rw [tokF_fuel t.length (t.drop (j + 1)).length _ (by simp) (Nat.le_refl _)]
theorem toks_one {p : Piece} {t : List Piece} (h0 : p.isB 42 = false) (h1 : p.isB 63 = false) (h : p.isB 91 = true → setEnd t = none) : toks (p :: t) = .one p.c :: toks t := by
  simp only [toks, List.length_cons, tokF, h0, h1]
  cases hb : p.isB 91 with
  | false => simp
  | true => simp [h hb]

/-- one step of the places that may be reached -/
def stepT (s : List UInt8) (at_ : List Bool) : Tok → List Bool
  | .star => (List.range at_.length).map fun k => (at_.take (k + 1)).any id
  | t => (List.range at_.length).map fun k => match k with
    | 0 => false
    | j + 1 => at_.getD j false && t.ok (s.getD j 0)
def runT (s : List UInt8) (l : List Tok) (at_ : List Bool) : List Bool := l.foldl (stepT s) at_
def matchL (p s : List UInt8) : Bool := (runT s (toks (piecesOf p 0)) (true :: List.replicate s.length false)).getD s.length false

/-- is a pattern byte in it -/
def liveP : List Piece → Bool
  | [] => false
  | p :: t => p.isB 42 || p.isB 63 || (p.isB 91 && (setEnd t).isSome) || liveP t
def liveL (l : List UInt8) : Bool := liveP (piecesOf l 0)

/-- the parts between living blanks: from where the part begins, what is cut -/
def splitP (s : List UInt8) : List Piece → Nat → List (List UInt8)
  | [], frm => if frm < s.length then [s.drop frm] else []
  | p :: t, frm =>
    if p.blankB then (if frm < p.frm then [(s.take p.frm).drop frm] else []) ++ splitP s t (p.frm + 1)
    else splitP s t frm
def splitL (s : List UInt8) : List (List UInt8) := splitP s (piecesOf s 0) 0
end Go.Proofs.YtpogngdddendiaaDoor

/- The walks over package pattern's small functions: pieces, is, blank, end, Closed, and text.Blank. Each text is shorter than a million bytes. -/
set_option linter.unusedVariables false
set_option linter.unusedSimpArgs false
namespace Go.Proofs.YtpogngdddendiaaDoor
open Go.RowKit

def pcs (p : Piece) : List Value := [.int .u8 p.c.toNat, .bool p.dead, .int .i64 p.frm]
theorem pcs_len (p : Piece) : (pcs p).length = 3 := rfl

theorem u8_beq (c : UInt8) (d : Nat) (hd : d < 256) : ((c.toNat : Int) == (d : Int)) = (c == UInt8.ofNat d) := by
  rw [Bool.eq_iff_iff]
  simp only [beq_iff_eq, Int.natCast_inj, ← UInt8.toNat_inj, UInt8.toNat_ofNat']
  omega

set_option maxHeartbeats 400000 in
theorem tblank_any (c : UInt8) (w : World) :
    Calls Tryd.prog 168 #[.int .u8 c.toNat] w fun e w' => e = .returned (.bool (blankB c)) ∧ w' = w := by
  have h1 := u8_beq c 32 (by decide)
  have h2 := u8_beq c 9 (by decide)
  have h3 := u8_beq c 10 (by decide)
  have hb : blankB c = (((c.toNat : Int) == 32) || ((c.toNat : Int) == 9) || ((c.toNat : Int) == 10)) := by
    unfold blankB; rw [show (32 : Int) = ((32 : Nat) : Int) from rfl, show (9 : Int) = ((9 : Nat) : Int) from rfl, show (10 : Int) = ((10 : Nat) : Int) from rfl, h1, h2, h3]; rfl
  rw [hb]
  clear h1 h2 h3 hb
  generalize (c.toNat : Int) = n
  go_enter Tryd.func168, Tryd.ntmps168
  go_wp2_with fail
  all_goals go_ret
  all_goals refine ⟨?_, rfl⟩
  all_goals simp [*]

set_option maxHeartbeats 400000 in
theorem is_any (p : Piece) (d : Int) (w : World) :
    Calls Tryd.prog 169 #[.agg #[.int .u8 p.c.toNat, .bool p.dead, .int .i64 p.frm], .int .u8 d] w (Ret w (.bool (p.isB d))) := by
  obtain ⟨c, dead, f⟩ := p
  cases hcd : ((c.toNat : Int) == d)
  all_goals
    go_enter Tryd.func169, Tryd.ntmps169
    go_wp2_with fail
    go_ret
    exact ⟨by simp [Piece.isB, hcd], (Below.refl _ _).alloc (Nat.le_refl _) _⟩

set_option maxHeartbeats 400000 in
theorem blank_any (p : Piece) (w : World) :
    Calls Tryd.prog 171 #[.agg #[.int .u8 p.c.toNat, .bool p.dead, .int .i64 p.frm]] w (Ret w (.bool p.blankB)) := by
  obtain ⟨c, dead, f⟩ := p
  go_enter Tryd.func171, Tryd.ntmps171
  go_wp2_with fail
  refine (tblank_any c _).mono ?_
  cases hcd : blankB c
  all_goals
    rintro e w' ⟨rfl, rfl⟩
    go_wp2_with fail
    go_ret
    exact ⟨by simp [Piece.blankB, hcd], (Below.refl _ _).alloc (Nat.le_refl _) _⟩

theorem infoPiece : (Tryd.prog.info? 189).map (fun i => (i.zero, i.size, i.bytes)) = some (some (.agg #[.int .u8 0, .bool false, .int .i64 0]), 3, 16) := by kernel_rfl


def PiecesRet (s : ByteArray) (w : World) (e : Ending) (w' : World) : Prop :=
  ∃ v, e = .returned (.tuple #[v, .bool (openOf s.data.toList)]) ∧ w'.ownsRow w.heap.size 189 3 v (piecesOf s.data.toList 0).length ((piecesOf s.data.toList 0).flatMap pcs) ∧ Below w.heap.size w w'

set_option maxRecDepth 100000 in
set_option maxHeartbeats 400000 in
theorem pieces_any (s : ByteArray) (w : World) (hs : s.size ≤ 4000000) :
    Calls Tryd.prog 121 #[.string s] w (PiecesRet s w) := by
  obtain ⟨i0, hi, hz0, hz1, hz2⟩ := info_parts infoPiece
  go_enter Tryd.func121, Tryd.ntmps121
  go_wp2_with fail
  go_loopw [4, 5] (fun v i wr => ∃ k : Nat, ∃ done : List Piece, k ≤ s.size ∧ i = .int .i64 k ∧ done.length ≤ k ∧ wr.ownsRow w.heap.size 189 3 v done.length (done.flatMap pcs) ∧ Below w.heap.size w wr ∧
      Hid (piecesOf s.data.toList 0 = done ++ piecesOf (s.data.toList.drop k) k) ∧ Hid (openOf s.data.toList = openOf (s.data.toList.drop k)))
    (fun _ i _ => s.size - (intOf i).toNat)
  case atStart => exact ⟨0, [], Nat.zero_le _, rfl, Nat.zero_le _, World.ownsRow_nil _ _ _ _, Below.refl _ _, rfl, rfl⟩
  case round =>
    obtain ⟨k, done, hk, rfl, hd, hown, hb, HP, HO⟩ := hrel
    by_cases hlt : k < s.size
    · have hdr := bytes_drop s k hlt
      by_cases hc : s[k] = 92
      · have hc0 : ((s[k].toNat : Int) != 92) = false := by rw [hc]; rfl
        by_cases hlt2 : k + 1 < s.size
        · have h1 : (((k : Nat) : Int) + 1 == (s.size : Int)) = false := by simp; omega
          have hdr2 := bytes_drop s (k + 1) hlt2
          have HP2 := Lib.hid (show piecesOf s.data.toList 0 = (done ++ [⟨s[k + 1], true, k⟩]) ++ piecesOf (s.data.toList.drop (k + 1 + 1)) (k + 1 + 1) from by
            have := HP.out
            rw [hdr, hdr2, hc] at this
            simpa [piecesOf] using this)
          have HO2 := Lib.hid (show openOf s.data.toList = openOf (s.data.toList.drop (k + 1 + 1)) from by
            have := HO.out
            rw [hdr, hdr2, hc] at this
            simpa [openOf] using this)
          clear hdr hdr2 HP HO hc
          go_wp2_with (at_builtin; refine wpList_push rfl _ _ _ rfl Tryd.underlying165 hi hz0 hz1 hz2 rfl (by decide) hown rfl rfl rfl (by simp [Value.oneCell']) (by omega) (by decide) hb.size ?_; intro A' c' w1 hown1 hb1 _)
          go_roundw
          case rel => exact ⟨k + 1 + 1, done ++ [⟨s[k + 1], true, k⟩], by omega, by go_num, by simp; omega, by simpa [pcs] using hown1, hb.trans hb1, HP2, HO2⟩
          case measure => simp [intOf]; omega
        · have h1 : (((k : Nat) : Int) + 1 == (s.size : Int)) = true := by simp; omega
          have hend : s.data.toList.drop (k + 1) = [] := by rw [show k + 1 = s.size by omega]; exact bytes_end s
          have HP2 := Lib.hid (show piecesOf s.data.toList 0 = done ++ [⟨92, true, k⟩] from by
            have := HP.out
            rw [hdr, hend, hc] at this
            simpa [piecesOf] using this)
          have HO2 := Lib.hid (show openOf s.data.toList = true from by
            have := HO.out
            rw [hdr, hend, hc] at this
            simpa [openOf] using this)
          have h92 : s[k].toNat = 92 := by rw [hc]; rfl
          clear hdr hend HP HO hc
          go_wp2_with (at_builtin; refine wpList_push rfl _ _ _ rfl Tryd.underlying165 hi hz0 hz1 hz2 rfl (by decide) hown rfl rfl rfl (by simp [Value.oneCell']) (by omega) (by decide) hb.size ?_; intro A' c' w1 hown1 hb1 _)
          go_ret2
          refine ⟨_, by rw [HO2.out]; rfl, ?_, hb.trans hb1⟩
          rw [HP2.out]
          simpa [pcs, h92] using hown1
      · have hc0 : ((s[k].toNat : Int) != 92) = true := u8_ne (d := 92) (fun h => hc (UInt8.toNat_inj.1 h))
        have HP2 := Lib.hid (show piecesOf s.data.toList 0 = (done ++ [⟨s[k], false, k⟩]) ++ piecesOf (s.data.toList.drop (k + 1)) (k + 1) from by
          have := HP.out
          rw [hdr] at this
          simpa [piecesOf_ne hc] using this)
        have HO2 := Lib.hid (show openOf s.data.toList = openOf (s.data.toList.drop (k + 1)) from by
          have := HO.out
          rw [hdr] at this
          simpa [openOf_ne hc] using this)
        clear hdr HP HO hc
        go_wp2_with (at_builtin; refine wpList_push rfl _ _ _ rfl Tryd.underlying165 hi hz0 hz1 hz2 rfl (by decide) hown rfl rfl rfl (by simp [Value.oneCell']) (by omega) (by decide) hb.size ?_; intro A' c' w1 hown1 hb1 _)
        go_roundw
        case rel => exact ⟨k + 1, done ++ [⟨s[k], false, k⟩], by omega, by go_num, by simp; omega, by simpa [pcs] using hown1, hb.trans hb1, HP2, HO2⟩
        case measure => simp [intOf]; omega
    · obtain rfl : s.size = k := by omega
      have hend := bytes_end s
      have HP2 := Lib.hid (show piecesOf s.data.toList 0 = done from by
        have := HP.out
        rw [hend] at this
        simpa [piecesOf] using this)
      have HO2 := Lib.hid (show openOf s.data.toList = false from by
        have := HO.out
        rw [hend] at this
        simpa [openOf] using this)
      clear hend HP HO
      go_wp2_with fail
      go_ret2
      refine ⟨_, by rw [HO2.out]; rfl, ?_, hb⟩
      rw [HP2.out]
      exact hown

set_option maxHeartbeats 400000 in
theorem end_any (A : Option Addr) (c : Nat) (i : Nat) (l : List Piece) (w : World) (hl : RdL w 3 pcs A l) (hn : l.length ≤ 1000000) (hi : i ≤ 1000000) :
    Calls Tryd.prog 170 #[.slice A l.length c, .int .i64 i] w (Ret w (.int .i64 (endAt (l.drop (i + 2)) (i + 2)))) := by
  go_enter Tryd.func170, Tryd.ntmps170
  go_wp2_with fail
  go_loopw [5] (fun v wr => ∃ k : Nat, i + 2 ≤ k ∧ k ≤ 1000002 + l.length ∧ v = .int .i64 k ∧ Below w.heap.size w wr ∧ Hid (endAt (l.drop (i + 2)) (i + 2) = endAt (l.drop k) k)) (fun v _ => 2000002 - (intOf v).toNat)
  case atStart => exact ⟨i + 2, by omega, by omega, by go_num, Below.refl _ _, rfl⟩
  case round =>
    obtain ⟨k, hk1, hk2, rfl, hb, H⟩ := hrel
    by_cases hlt : k < l.length
    · obtain ⟨b, o, rfl, hbl, hc⟩ := (hl.below hb) k hlt
      have c0 := hc 0 _ rfl
      have c1 := hc 1 _ rfl
      have c2 := hc 2 _ rfl
      clear hc
      simp only [Nat.add_zero] at c0
      have HE := Lib.hid (show endAt (l.drop (i + 2)) (i + 2) = if l[k].isB 93 then (k : Int) else endAt (l.drop (k + 1)) (k + 1) from by
        have h := H.out
        rw [List.drop_eq_getElem_cons hlt, endAt] at h
        exact h)
      clear H
      go_wp2_with fail
      refine (is_any l[k] _ _).mono ?_
      cases hB : l[k].isB 93
      all_goals
        rintro e w1 ⟨rfl, hb1⟩
        have hb2 := hb.trans (hb1.mono hb.size)
        clear c0 c1 c2
        go_wp2_with fail
      · go_roundw
        case rel => exact ⟨k + 1, by omega, by omega, by go_num, hb2, by have := HE.out; rw [hB] at this; exact this⟩
        case measure => simp [intOf]; omega
      · go_ret
        exact ⟨by rw [HE.out, hB]; rfl, hb2⟩
    · have HE := Lib.hid (show endAt (l.drop (i + 2)) (i + 2) = -1 from by
        have h := H.out
        rw [List.drop_of_length_le (by omega : l.length ≤ k)] at h
        exact h)
      clear H
      go_wp2_with fail
      go_ret
      exact ⟨by rw [HE.out]; rfl, hb⟩

set_option maxHeartbeats 400000 in
theorem closed_any (s : ByteArray) (w : World) (hs : s.size ≤ 4000000) :
    Calls Tryd.prog 89 #[.string s] w (Ret w (.bool (!openOf s.data.toList))) := by
  go_enter Tryd.func89, Tryd.ntmps89
  go_wp2_with fail
  refine (pieces_any s _ hs).mono ?_
  rintro e w1 ⟨v, rfl, _, hb⟩
  go_wp2_with fail
  go_ret
  exact ⟨rfl, hb⟩
end Go.Proofs.YtpogngdddendiaaDoor

/- The walks over text.Name and what it calls: it tells just whether a text is a name. A bound on the length. -/
set_option linter.unusedVariables false
set_option linter.unusedSimpArgs false
namespace Go.Proofs.YtpogngdddendiaaDoor
open Go.RowKit

def beginsZ (n : Int) : Bool := decide (97 ≤ bits .or .u8 n 32) && decide (bits .or .u8 n 32 ≤ 122) || n == 95
def goesZ (n : Int) : Bool := beginsZ n || decide (48 ≤ n) && decide (n ≤ 57)
def nameB (l : List UInt8) : Bool := match l with
  | [] => false
  | c :: t => decide (t.length < 20) && beginsZ c.toNat && (c :: t).all fun d => goesZ d.toNat

theorem name_ret {a b : Bool} (h : a = b) : Ending.returned (.bool a) = .returned (.bool b) := by rw [h]

set_option maxHeartbeats 400000 in
theorem begins_any (n : Int) (w : World) :
    Calls Tryd.prog 122 #[.int .u8 n] w fun e w' => e = .returned (.bool (beginsZ n)) ∧ w' = w := by
  by_cases h1 : 97 ≤ bits .or .u8 n 32
  all_goals by_cases h2 : bits .or .u8 n 32 ≤ 122
  all_goals cases h3 : (n == 95)
  all_goals
    go_enter Tryd.func122, Tryd.ntmps122
    go_wp2_with fail
    go_ret
    exact ⟨by simp [beginsZ, h1, h2, h3], rfl⟩

set_option maxHeartbeats 400000 in
theorem goes_any (n : Int) (w : World) :
    Calls Tryd.prog 123 #[.int .u8 n] w fun e w' => e = .returned (.bool (goesZ n)) ∧ w' = w := by
  have HB := Lib.hid (begins_any n)
  obtain ⟨b, hb⟩ : ∃ b, b = beginsZ n := ⟨_, rfl⟩
  rw [← hb] at HB
  have HG := Lib.hid (show goesZ n = (b || decide (48 ≤ n) && decide (n ≤ 57)) by rw [hb]; rfl)
  clear hb
  cases b
  · by_cases h1 : 48 ≤ n
    all_goals by_cases h2 : n ≤ 57
    all_goals first
      | (exfalso; omega)
      | (go_enter Tryd.func123, Tryd.ntmps123
         go_wp2_with fail
         refine (HB.out _).mono ?_
         rintro e w1 ⟨rfl, rfl⟩
         go_wp2_with fail
         go_ret
         exact ⟨name_ret (by rw [HG.out]; simp [h1, h2]), rfl⟩)
  · go_enter Tryd.func123, Tryd.ntmps123
    go_wp2_with fail
    refine (HB.out _).mono ?_
    rintro e w1 ⟨rfl, rfl⟩
    go_wp2_with fail
    go_ret
    exact ⟨by rw [HG.out]; rfl, rfl⟩

set_option maxHeartbeats 2000000 in
theorem tname_any (l : List UInt8) (w : World) (hl : l.length ≤ 4000000) :
    Calls Tryd.prog 90 #[.string ⟨l.toArray⟩] w fun e w' => e = .returned (.bool (nameB l)) ∧ w' = w := by
  cases l with
  | nil =>
    go_enter Tryd.func90, Tryd.ntmps90
    go_wp2_with fail
    go_ret
    exact ⟨rfl, rfl⟩
  | cons c t =>
    obtain ⟨m, hm⟩ : ∃ m, m = t.length := ⟨_, rfl⟩
    by_cases h20 : t.length < 20
    · obtain ⟨b, hb⟩ : ∃ b, b = beginsZ c.toNat := ⟨_, rfl⟩
      have HB := Lib.hid (begins_any c.toNat)
      have h20' : decide ((20 : Int) < (t.length : Int) + 1) = false := decide_eq_false (by omega)
      rw [← hb] at HB
      have HBE := Lib.hid hb
      clear hb
      go_enter Tryd.func90, Tryd.ntmps90
      go_wp2_with fail
      refine (HB.out _).mono ?_
      rintro e w1 ⟨rfl, rfl⟩
      cases b
      · go_wp2_with fail
        go_ret
        exact ⟨name_ret (by simp [nameB, ← HBE.out]), rfl⟩
      · go_wp2_with fail
        go_loopw [19] (fun i wr => ∃ k : Nat, k ≤ t.length + 1 ∧ i = .int .i64 k ∧ wr = w1 ∧ Hid (((c :: t).all fun d => goesZ d.toNat) = ((c :: t).drop k).all fun d => goesZ d.toNat)) (fun i _ => t.length + 1 - (intOf i).toNat)
        case atStart => exact ⟨0, Nat.zero_le _, rfl, rfl, rfl⟩
        case round =>
          obtain ⟨k, hk, rfl, rfl, H⟩ := hrel
          by_cases hlt : k < t.length + 1
          · obtain ⟨d, hd⟩ : ∃ d, d = (c :: t)[k] := ⟨_, rfl⟩
            have hd' : ({ data := (c :: t).toArray } : ByteArray)[k] = d := by rw [hd]; rfl
            have HN := Lib.hid (show ((c :: t).all fun d => goesZ d.toNat) = (goesZ d.toNat && ((c :: t).drop (k + 1)).all fun d => goesZ d.toNat) by
              rw [H.out, List.drop_eq_getElem_cons (by simpa using hlt), List.all_cons, ← hd])
            have HD := Lib.hid hd'
            clear hd hd' H
            go_wp2_with fail
            rw [HD.out]
            refine (goes_any _ _).mono ?_
            obtain ⟨b, hb⟩ : ∃ b, b = goesZ d.toNat := ⟨_, rfl⟩
            rw [← hb] at HN ⊢
            clear hb
            cases b
            all_goals
              rintro e w2 ⟨rfl, rfl⟩
              go_wp2_with fail
            · go_ret
              exact ⟨name_ret (by rw [nameB, HN.out]; simp), rfl⟩
            · go_roundw
              case rel => exact ⟨k + 1, by omega, by go_num, trivial, Lib.hid (by rw [HN.out]; simp)⟩
              case measure => simp [intOf]; omega
          · obtain rfl : k = t.length + 1 := by omega
            have HN := Lib.hid (show ((c :: t).all fun d => goesZ d.toNat) = true by
              rw [H.out, List.drop_of_length_le (by simp)]; rfl)
            clear H
            go_wp2_with fail
            go_ret
            exact ⟨name_ret (by rw [nameB, HN.out, ← HBE.out]; simp [h20]), rfl⟩
    · go_enter Tryd.func90, Tryd.ntmps90
      go_wp2_with fail
      go_ret
      exact ⟨name_ret (by simp [nameB, h20]), rfl⟩
end Go.Proofs.YtpogngdddendiaaDoor
