/- The walks over the small functions of package core that look at one node. Bounds on the lengths. -/
import Derived.Test.YtpogngdddendiaaDoorHC
import Derived.Outline
set_option linter.unusedVariables false
set_option linter.unusedSimpArgs false
namespace Go.Proofs.YtpogngdddendiaaDoor
open Go.RowKit

def IdxRet (l : List Int) (v : Int) (w : World) (e : Ending) (w' : World) : Prop := ∃ r : Int, e = .returned (.int .i64 r) ∧ decide (0 ≤ r) = l.contains v ∧ w' = w

set_option maxHeartbeats 1000000 in
theorem index_any (A : Option Addr) (c : Nat) (l : List Int) (v : Int) (w : World) (h : RdL w 1 intc A l) (hl : l.length ≤ 1000000) :
    Calls Tryd.prog 78 #[.slice A l.length c, .int .i64 v] w (IdxRet l v w) := by
  go_enter Tryd.func78, Tryd.ntmps78
  go_wp2_with fail
  go_loopw [8] (fun i wr => ∃ k : Nat, k ≤ l.length ∧ i = .int .i64 k ∧ w = wr ∧ Hid ((l.take k).contains v = false)) (fun i _ => l.length - (intOf i).toNat)
  case atStart => exact ⟨0, Nat.zero_le _, rfl, rfl, Lib.hid (by simp)⟩
  case round =>
    obtain ⟨k, hk, rfl, rfl, H⟩ := hrel
    by_cases hlt : k < l.length
    · obtain ⟨b, o, rfl, _, hcell⟩ := h k hlt
      have c0 := hcell 0 _ rfl
      clear hcell
      simp only [Nat.mul_one, Nat.add_zero] at c0
      obtain ⟨x, hx⟩ : ∃ x, x = l[k] := ⟨_, rfl⟩
      rw [← hx] at c0
      have HX := Lib.hid hx
      clear hx
      cases hv : (v == x)
      · have HV := Lib.hid hv
        go_wp2_with fail
        go_roundw
        case rel =>
          refine ⟨k + 1, by omega, by go_num, trivial, Lib.hid ?_⟩
          have hv := HV.out
          have hh := H.out
          rw [List.take_succ_eq_append_getElem hlt, ← HX.out]
          simp only [List.contains_eq_mem, List.mem_append, List.mem_singleton, decide_eq_false_iff_not, beq_eq_false_iff_ne] at hh hv ⊢
          rintro (h1 | h1)
          · exact hh h1
          · exact hv h1
        case measure => simp [intOf]; omega
      · have HV := Lib.hid hv
        go_wp2_with fail
        go_ret
        refine ⟨k, rfl, ?_, rfl⟩
        have hv := beq_iff_eq.1 HV.out
        rw [List.contains_eq_mem, decide_eq_true (by omega), eq_comm, decide_eq_true_iff, hv, HX.out]
        exact List.getElem_mem _
    · obtain rfl : k = l.length := by omega
      go_wp2_with fail
      go_ret
      refine ⟨-1, rfl, ?_, rfl⟩
      have hh := H.out
      rw [List.take_length] at hh
      rw [hh]; rfl

theorem contains_any (A : Option Addr) (c : Nat) (l : List Int) (v : Int) (w : World) (h : RdL w 1 intc A l) (hl : l.length ≤ 1000000) :
    Calls Tryd.prog 39 #[.slice A l.length c, .int .i64 v] w fun e w' => e = .returned (.bool (l.contains v)) ∧ w' = w := by
  go_enter Tryd.func39, Tryd.ntmps39
  go_wp2_with fail
  refine (index_any A c l v _ h hl).mono ?_
  rintro e w1 ⟨r, rfl, hr, rfl⟩
  have HR := Lib.hid hr
  clear hr
  by_cases h0 : 0 ≤ r
  all_goals
    go_wp2_with fail
    go_ret
    exact ⟨name_ret (by rw [← HR.out] <;> simp [h0]), rfl⟩

def namedB (kind : Int) : Bool := kind == 2 || kind == 22 || kind == 29 || kind == 31 || kind == 35
theorem named_list (kind : Int) : ([2, 22, 29, 31, 35] : List Int).contains kind = namedB kind := by
  rw [Bool.eq_iff_iff]
  simp [namedB, or_assoc]
theorem named_any (kind : Int) (w : World) : Calls Tryd.prog 91 #[.int .i64 kind] w (Ret w (.bool (namedB kind))) := by
  go_enter Tryd.func91, Tryd.ntmps91
  go_wp2_with fail
  refine (contains_any (some ⟨w.heap.size, 0, none⟩) 5 [2, 22, 29, 31, 35] kind _ ?_ (by decide)).mono ?_
  · intro k hk
    refine ⟨w.heap.size, 0, rfl, by simp, fun j u hu => ?_⟩
    have hj : j = 0 := by
      have := (List.getElem?_eq_some_iff.1 hu).1
      simp [intc] at this
      exact this
    subst hj
    rw [cell_of_row _ _ _ _ _ _ (heap_alloc_new w _)]
    have hk' : k < 5 := hk
    rcases k with _ | _ | _ | _ | _ | k
    all_goals first | (simpa [intc] using hu) | omega
  · rintro e w1 ⟨rfl, rfl⟩
    go_wp2_with fail
    go_ret
    exact ⟨name_ret (by rw [← named_list]; simp), (Below.refl _ _).alloc (Nat.le_refl _) _⟩

def wordB (k : Int) : Bool := decide (1 ≤ k) && decide (k ≤ 12)
def commandB (k : Int) : Bool := decide (20 ≤ k) && decide (k ≤ 37)
theorem word_any (k : Int) (w : World) : Calls Tryd.prog 58 #[.int .i64 k] w fun e w' => e = .returned (.bool (wordB k)) ∧ w' = w := by
  by_cases h1 : 1 ≤ k
  all_goals by_cases h2 : k ≤ 12
  all_goals first
    | (exfalso; omega)
    | (go_enter Tryd.func58, Tryd.ntmps58
       go_wp2_with fail
       go_ret
       exact ⟨name_ret (by simp [wordB, h1, h2]), rfl⟩)
theorem command_any (k : Int) (w : World) : Calls Tryd.prog 59 #[.int .i64 k] w fun e w' => e = .returned (.bool (commandB k)) ∧ w' = w := by
  by_cases h1 : 20 ≤ k
  all_goals by_cases h2 : k ≤ 37
  all_goals first
    | (exfalso; omega)
    | (go_enter Tryd.func59, Tryd.ntmps59
       go_wp2_with fail
       go_ret
       exact ⟨name_ret (by simp [commandB, h1, h2]), rfl⟩)

/-- A node as a value. -/
def ndv (x : Nd) : Value := .agg #[.int .i64 x.kind, .int .i64 x.n, .int .i64 x.k, .int .i64 x.size, .string ⟨x.s.toArray⟩]

def childrenB (kind k : Int) : Bool :=
  if kind == 1 || kind == 2 || kind == 20 then k == 0 else if kind == 3 then decide (0 ≤ k) else if kind == 4 || kind == 21 || kind == 37 then decide (1 ≤ k) else if kind == 23 || kind == 32 then decide (2 ≤ k)
  else if kind == 24 then k == 3 else if kind == 25 || kind == 26 || kind == 28 || kind == 29 || kind == 35 || kind == 33 || kind == 34 then k == 2 else if kind == 30 then decide (1 ≤ k) && k % 2 == 1 else k == 1
set_option maxRecDepth 100000 in
set_option maxHeartbeats 4000000 in
theorem children_any (x : Nd) (w : World) : Calls Tryd.prog 61 #[.agg #[.int .i64 x.kind, .int .i64 x.n, .int .i64 x.k, .int .i64 x.size, .string ⟨x.s.toArray⟩]] w (Ret w (.bool (childrenB x.kind x.k))) := by
  obtain ⟨kind, n, k, size, s⟩ := x
  simp only
  go_enter Tryd.func61, Tryd.ntmps61
  go_wp2_with fail
  all_goals go_ret
  all_goals refine ⟨name_ret ?_, (Below.refl _ _).alloc (Nat.le_refl _) _⟩
  all_goals first
    | (simp [childrenB, *]; done)
    | (simp [childrenB, *]; omega)

def takesB (kind K k : Int) : Bool :=
  if kind == 12 || kind == 23 || kind == 32 || kind == 24 || kind == 25 || kind == 26 || kind == 28 || kind == 27 || kind == 31 then false
  else if kind == 29 || kind == 35 || kind == 33 || kind == 34 then k == 0 else if kind == 30 then k == 0 || k % 2 == 1 else if kind == 37 then decide (k < K - 1) else true
set_option maxRecDepth 100000 in
set_option maxHeartbeats 4000000 in
theorem takes_any (x : Nd) (i : Nat) (w : World) (hK : 0 ≤ x.k) (hK2 : x.k ≤ 9223372036854775807) (hi : i ≤ 4000000) : Calls Tryd.prog 63 #[.agg #[.int .i64 x.kind, .int .i64 x.n, .int .i64 x.k, .int .i64 x.size, .string ⟨x.s.toArray⟩], .int .i64 i] w (Ret w (.bool (takesB x.kind x.k i))) := by
  obtain ⟨kind, n, k, size, s⟩ := x
  simp only at hK hK2
  simp only
  go_enter Tryd.func63, Tryd.ntmps63
  go_wp2_with fail
  all_goals go_ret
  all_goals refine ⟨name_ret ?_, (Below.refl _ _).alloc (Nat.le_refl _) _⟩
  all_goals first
    | (simp [takesB, *]; done)
    | (simp [takesB, *]; omega)

def fieldsB (x : Nd) : Bool :=
  if x.kind == 1 then (x.n == 0 || x.n == 1 && !openOf x.s) && decide (x.s.length ≤ 2000)
  else if x.kind == 11 then decide (1 ≤ x.n) && decide (x.n ≤ 99) && x.s.isEmpty
  else if x.kind == 33 then decide (1 ≤ x.n) && decide (x.n ≤ 3) && x.s.isEmpty
  else if x.n != 0 then false
  else if x.kind == 2 then nameB x.s || x.s == [42]
  else if namedB x.kind then nameB x.s
  else x.s.isEmpty
end Go.Proofs.YtpogngdddendiaaDoor

/- The walk over core.fields: whether a node's number and string may be. A bound on the string's length. -/
set_option linter.unusedVariables false
set_option linter.unusedSimpArgs false
namespace Go.Proofs.YtpogngdddendiaaDoor
open Go.RowKit

theorem isEmpty_len (s : List UInt8) : s.isEmpty = decide (s.length = 0) := by cases s <;> rfl

set_option maxRecDepth 100000 in
set_option maxHeartbeats 4000000 in
theorem fields_any (x : Nd) (w : World) (hs : x.s.length ≤ 4000000) : Calls Tryd.prog 60 #[.agg #[.int .i64 x.kind, .int .i64 x.n, .int .i64 x.k, .int .i64 x.size, .string ⟨x.s.toArray⟩]] w (Ret w (.bool (fieldsB x))) := by
  obtain ⟨kind, n, k, size, s⟩ := x
  simp only at hs ⊢
  have C1 := Lib.hid (show ∀ W, Calls Tryd.prog 89 #[.string ⟨s.toArray⟩] W (Ret W (.bool (!openOf s))) from fun W => closed_any ⟨s.toArray⟩ W (by simpa [ByteArray.size] using hs))
  have C2 := Lib.hid (fun W => tname_any s W hs)
  have C3 := Lib.hid (fun W => named_any kind W)
  have HF := Lib.hid (show fieldsB ⟨kind, n, k, size, s⟩ = (if kind == 1 then (n == 0 || n == 1 && !openOf s) && decide (s.length ≤ 2000)
    else if kind == 11 then decide (1 ≤ n) && decide (n ≤ 99) && s.isEmpty
    else if kind == 33 then decide (1 ≤ n) && decide (n ≤ 3) && s.isEmpty
    else if n != 0 then false
    else if kind == 2 then nameB s || s == [42]
    else if namedB kind then nameB s
    else s.isEmpty) from rfl)
  generalize fieldsB ⟨kind, n, k, size, s⟩ = F at *
  generalize openOf s = ob at *
  generalize nameB s = nb at *
  generalize namedB kind = mb at *
  cases h1 : (kind == 1)
  case true =>
    cases hn0 : (n == 0)
    case true =>
      by_cases hl : s.length ≤ 2000
      all_goals
        go_enter Tryd.func60, Tryd.ntmps60
        go_wp2_with fail
        go_ret
        exact ⟨name_ret (by rw [HF.out]; (try simp [h1, hn0, hl]) <;> omega), (Below.refl _ _).alloc (Nat.le_refl _) _⟩
    case false =>
      cases hn1 : (n == 1)
      case false =>
        go_enter Tryd.func60, Tryd.ntmps60
        go_wp2_with fail
        go_ret
        exact ⟨name_ret (by rw [HF.out]; simp [h1, hn0, hn1]), (Below.refl _ _).alloc (Nat.le_refl _) _⟩
      case true =>
        by_cases hl : s.length ≤ 2000
        all_goals
          go_enter Tryd.func60, Tryd.ntmps60
          go_wp2_with fail
          refine (C1.out _).mono ?_
          cases ob
          all_goals
            rintro e w1 ⟨rfl, hb1⟩
            have c4 := box_cell hb1 4 (by simp)
            simp only [List.size_toArray, List.getElem?_toArray, List.getElem?_cons_succ, List.getElem?_cons_zero] at c4
            go_wp2_with fail
            go_ret
            exact ⟨name_ret (by rw [HF.out]; (try simp [h1, hn0, hn1, hl]) <;> omega), ((Below.refl _ _).alloc (Nat.le_refl _) _).trans (hb1.mono (by simp))⟩
  case false =>
  cases h11 : (kind == 11)
  case true =>
    by_cases hn0 : 1 ≤ n
    all_goals by_cases hn1 : n ≤ 99
    all_goals first
      | (exfalso; omega)
      | (go_enter Tryd.func60, Tryd.ntmps60
         go_wp2_with fail
         go_ret
         exact ⟨name_ret (by rw [HF.out]; (try simp [h1, h11, hn0, hn1]) <;> omega), (Below.refl _ _).alloc (Nat.le_refl _) _⟩)
  case false =>
  cases h33 : (kind == 33)
  case true =>
    by_cases hn0 : 1 ≤ n
    all_goals by_cases hn1 : n ≤ 3
    all_goals first
      | (exfalso; omega)
      | (go_enter Tryd.func60, Tryd.ntmps60
         go_wp2_with fail
         go_ret
         exact ⟨name_ret (by rw [HF.out]; (try simp [h1, h11, h33, hn0, hn1]) <;> omega), (Below.refl _ _).alloc (Nat.le_refl _) _⟩)
  case false =>
  cases hn0 : (n != 0)
  case true =>
    go_enter Tryd.func60, Tryd.ntmps60
    go_wp2_with fail
    go_ret
    exact ⟨name_ret (by rw [HF.out]; (try simp [h1, h11, h33, hn0]) <;> omega), (Below.refl _ _).alloc (Nat.le_refl _) _⟩
  case false =>
  cases h2 : (kind == 2)
  case true =>
    go_enter Tryd.func60, Tryd.ntmps60
    go_wp2_with fail
    refine (C2.out _).mono ?_
    cases nb
    all_goals
      rintro e w1 ⟨rfl, rfl⟩
      go_wp2_with fail
      go_ret
      exact ⟨name_ret (by rw [HF.out]; (try simp [h1, h11, h33, hn0, h2]) <;> omega), (Below.refl _ _).alloc (Nat.le_refl _) _⟩
  case false =>
  go_enter Tryd.func60, Tryd.ntmps60
  go_wp2_with fail
  refine (C3.out _).mono ?_
  cases mb
  all_goals
    rintro e w1 ⟨rfl, hb1⟩
    have c4 := box_cell hb1 4 (by simp)
    simp only [List.size_toArray, List.getElem?_toArray, List.getElem?_cons_succ, List.getElem?_cons_zero] at c4
    go_wp2_with fail
  · go_ret
    exact ⟨name_ret (by rw [HF.out]; (try simp [h1, h11, h33, hn0, h2]) <;> omega), ((Below.refl _ _).alloc (Nat.le_refl _) _).trans (hb1.mono (by simp))⟩
  · refine (C2.out _).mono ?_
    rintro e w2 ⟨rfl, rfl⟩
    go_wp2_with fail
    go_ret
    exact ⟨name_ret (by rw [HF.out]; (try simp [h1, h11, h33, hn0, h2]) <;> omega), ((Below.refl _ _).alloc (Nat.le_refl _) _).trans (hb1.mono (by simp))⟩
end Go.Proofs.YtpogngdddendiaaDoor
