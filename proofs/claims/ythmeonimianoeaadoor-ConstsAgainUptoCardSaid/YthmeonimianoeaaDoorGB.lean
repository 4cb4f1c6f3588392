/- The walks over the small functions of package patoisref5: they say what package core's say. Bounds on the numbers. -/
import Derived.Test.YthmeonimianoeaaDoorCoreW5
import Derived.Outline
import Derived.Test.YthmeonimianoeaaDoorPatM
import Derived.Test.YthmeonimianoeaaDoorNameW
import Derived.Test.YthmeonimianoeaaDoorCoreW3
import Derived.Test.YthmeonimianoeaaDoorCheckM
set_option linter.unusedVariables false
set_option linter.unusedSimpArgs false
namespace Go.Proofs.YthmeonimianoeaaDoor
open Go.RowKit

theorem word5_any (k : Int) (w : World) : Calls Tryd.prog 79 #[.int .i64 k] w fun e w' => e = .returned (.bool (wordB k)) ∧ w' = w := by
  by_cases h1 : 1 ≤ k
  all_goals by_cases h2 : k ≤ 12
  all_goals first
    | (exfalso; omega)
    | (go_enter Tryd.func79, Tryd.ntmps79
       go_wp2_with fail
       go_ret
       exact ⟨name_ret (by simp [wordB, h1, h2]), rfl⟩)
theorem command5k_any (k : Int) (w : World) : Calls Tryd.prog 80 #[.int .i64 k] w fun e w' => e = .returned (.bool (commandB k)) ∧ w' = w := by
  by_cases h1 : 20 ≤ k
  all_goals by_cases h2 : k ≤ 37
  all_goals first
    | (exfalso; omega)
    | (go_enter Tryd.func80, Tryd.ntmps80
       go_wp2_with fail
       go_ret
       exact ⟨name_ret (by simp [commandB, h1, h2]), rfl⟩)
set_option maxRecDepth 100000 in
set_option maxHeartbeats 4000000 in
theorem count5_any (kind k : Int) (w : World) (hk : (1 ≤ kind ∧ kind ≤ 12) ∨ (20 ≤ kind ∧ kind ≤ 37)) : Calls Tryd.prog 111 #[.int .i64 kind, .int .i64 k] w fun e w' => e = .returned (.bool (childrenB kind k)) ∧ w' = w := by
  obtain rfl | rfl | rfl | rfl | rfl | rfl | rfl | rfl | rfl | rfl | rfl | rfl | rfl | rfl | rfl | rfl | rfl | rfl | rfl | rfl | rfl | rfl | rfl | rfl | rfl | rfl | rfl | rfl | rfl | rfl : kind = 1 ∨ kind = 2 ∨ kind = 3 ∨ kind = 4 ∨ kind = 5 ∨ kind = 6 ∨ kind = 7 ∨ kind = 8 ∨ kind = 9 ∨ kind = 10 ∨ kind = 11 ∨ kind = 12 ∨ kind = 20 ∨ kind = 21 ∨ kind = 22 ∨ kind = 23 ∨ kind = 24 ∨ kind = 25 ∨ kind = 26 ∨ kind = 27 ∨ kind = 28 ∨ kind = 29 ∨ kind = 30 ∨ kind = 31 ∨ kind = 32 ∨ kind = 33 ∨ kind = 34 ∨ kind = 35 ∨ kind = 36 ∨ kind = 37 := by omega
  all_goals clear hk
  all_goals
    go_enter Tryd.func111, Tryd.ntmps111
    go_wp2_with fail
    all_goals
      go_ret
      exact ⟨name_ret (by first | rfl | (simp [childrenB, *]; done) | (simp [childrenB, *]; omega) | (simp [childrenB, *]; intros; omega)), rfl⟩
set_option maxRecDepth 100000 in
set_option maxHeartbeats 4000000 in
theorem command5_any (kind K : Int) (i : Nat) (w : World) (hk : (1 ≤ kind ∧ kind ≤ 12) ∨ (20 ≤ kind ∧ kind ≤ 37)) (hK : 0 ≤ K) (hK2 : K ≤ 9223372036854775807) (hi : (i : Int) < K) (hi2 : i ≤ 4000000) (h2 : kind = 29 ∨ kind = 35 ∨ kind = 33 ∨ kind = 34 → K = 2) :
    Calls Tryd.prog 83 #[.int .i64 kind, .int .i64 i, .int .i64 K] w fun e w' => e = .returned (.bool (!takesB kind K i)) ∧ w' = w := by
  obtain rfl | rfl | rfl | rfl | rfl | rfl | rfl | rfl | rfl | rfl | rfl | rfl | rfl | rfl | rfl | rfl | rfl | rfl | rfl | rfl | rfl | rfl | rfl | rfl | rfl | rfl | rfl | rfl | rfl | rfl : kind = 1 ∨ kind = 2 ∨ kind = 3 ∨ kind = 4 ∨ kind = 5 ∨ kind = 6 ∨ kind = 7 ∨ kind = 8 ∨ kind = 9 ∨ kind = 10 ∨ kind = 11 ∨ kind = 12 ∨ kind = 20 ∨ kind = 21 ∨ kind = 22 ∨ kind = 23 ∨ kind = 24 ∨ kind = 25 ∨ kind = 26 ∨ kind = 27 ∨ kind = 28 ∨ kind = 29 ∨ kind = 30 ∨ kind = 31 ∨ kind = 32 ∨ kind = 33 ∨ kind = 34 ∨ kind = 35 ∨ kind = 36 ∨ kind = 37 := by omega
  all_goals clear hk
  all_goals simp at h2
  all_goals
    go_enter Tryd.func83, Tryd.ntmps83
    go_wp2_with fail
    all_goals
      go_ret
      exact ⟨name_ret (by first | rfl | (simp [takesB, *]; done) | (simp [takesB, *]; omega) | (rw [Bool.eq_iff_iff]; simp [takesB, *]; omega)), rfl⟩
end Go.Proofs.YthmeonimianoeaaDoor

/- The walk over patoisref2.Closed: it says what pattern.Closed says. Bounds on the length. -/
set_option linter.unusedVariables false
set_option linter.unusedSimpArgs false
namespace Go.Proofs.YthmeonimianoeaaDoor
open Go.RowKit

def openS : Bool → List UInt8 → Bool
  | o, [] => o
  | o, c :: t => openS (c == 92 && !o) t
theorem openOf_cons (c : UInt8) (t : List UInt8) : openOf (c :: t) = if c == 92 then (match t with | [] => true | _ :: t' => openOf t') else openOf t := by
  cases t <;> simp [openOf]
theorem openS_false : ∀ (n : Nat) (l : List UInt8), l.length ≤ n → openS false l = openOf l
  | _, [], _ => rfl
  | 0, c :: t, h => by simp at h
  | n + 1, c :: t, h => by
    rw [openS, openOf_cons]
    cases hc : (c == 92)
    · simp only [Bool.false_and, Bool.false_eq_true, if_false]
      exact openS_false n t (by simpa using h)
    · simp only [Bool.not_false, Bool.and_self, if_true]
      cases t with
      | nil => rfl
      | cons d t =>
        rw [openS]
        simp only [Bool.not_true, Bool.and_false]
        exact openS_false n t (by simp at h; omega)

set_option maxHeartbeats 1000000 in
theorem closed2_any (l : List UInt8) (w : World) (hl : l.length ≤ 4000000) : Calls Tryd.prog 109 #[.string ⟨l.toArray⟩] w fun e w' => e = .returned (.bool (!openOf l)) ∧ w' = w := by
  have HO := Lib.hid (openS_false l.length l (Nat.le_refl _))
  go_enter Tryd.func109, Tryd.ntmps109
  go_wp2_with fail
  go_loopw [3, 4] (fun v i wr => ∃ (k : Nat) (o : Bool), k ≤ l.length ∧ i = .int .i64 k ∧ v = .bool o ∧ Hid (openS false l = openS o (l.drop k)) ∧ wr = w) (fun _ i _ => l.length - (intOf i).toNat)
  case atStart => exact ⟨0, false, Nat.zero_le _, rfl, rfl, rfl, rfl⟩
  case round =>
    obtain ⟨k, o, hk, rfl, rfl, HS, rfl⟩ := hrel
    by_cases hlt : k < l.length
    · obtain ⟨d, hd⟩ : ∃ d, d = l[k] := ⟨_, rfl⟩
      have hd' : ({ data := l.toArray } : ByteArray)[k]'(by simpa [ByteArray.size] using hlt) = d := by rw [hd]; rfl
      have HN := Lib.hid (show openS false l = openS (d == 92 && !o) (l.drop (k + 1)) by rw [HS.out, List.drop_eq_getElem_cons hlt, openS, hd])
      obtain ⟨b, hb⟩ : ∃ b, (d == 92) = b := ⟨_, rfl⟩
      have hb2 : ((d.toNat : Int) == 92) = b := by
        rw [← hb, Bool.eq_iff_iff, beq_iff_eq, beq_iff_eq]
        constructor
        · intro h; exact UInt8.toNat_inj.1 (by rw [show (92 : UInt8).toNat = 92 from rfl]; omega)
        · intro h; rw [h]; rfl
      rw [hb] at HN
      clear hd hb HS
      cases b
      · go_wp2_with fail
        go_roundw
        case rel => exact ⟨k + 1, false, by omega, by go_num, rfl, HN, trivial⟩
        case measure => simp [intOf]; omega
      · go_wp2_with fail
        go_roundw
        case rel => exact ⟨k + 1, !o, by omega, by go_num, rfl, by simpa using HN, trivial⟩
        case measure => simp [intOf]; omega
    · obtain rfl : k = l.length := by omega
      have HF := Lib.hid (show openOf l = o by rw [← HO.out, HS.out, List.drop_of_length_le (Nat.le_refl _)]; rfl)
      go_wp2_with fail
      go_ret
      exact ⟨name_ret (by rw [HF.out]), rfl⟩
end Go.Proofs.YthmeonimianoeaaDoor

/- The walks over patoisref.Letter and patoisref.Name: they say what package text's say. A bound on the length. -/
set_option linter.unusedVariables false
set_option linter.unusedSimpArgs false
namespace Go.Proofs.YthmeonimianoeaaDoor
open Go.RowKit

def letterZ (n : Int) : Bool := decide (97 ≤ n) && decide (n ≤ 122) || decide (65 ≤ n) && decide (n ≤ 90) || decide (48 ≤ n) && decide (n ≤ 57) || n == 95
theorem letter_all : ((List.range 256).all fun n => letterZ (n : Int) == goesZ (n : Int)) = true := by kernel_rfl
theorem begins_all : ((List.range 256).all fun n => (letterZ (n : Int) && !(decide (48 ≤ (n : Int)) && decide ((n : Int) ≤ 57))) == beginsZ (n : Int)) = true := by kernel_rfl
theorem letter_eq (n : Nat) (h : n < 256) : letterZ (n : Int) = goesZ (n : Int) := by
  have := List.all_eq_true.1 letter_all n (List.mem_range.2 h)
  simpa using this
theorem begins_eq (n : Nat) (h : n < 256) : (letterZ (n : Int) && !(decide (48 ≤ (n : Int)) && decide ((n : Int) ≤ 57))) = beginsZ (n : Int) := by
  have := List.all_eq_true.1 begins_all n (List.mem_range.2 h)
  exact beq_iff_eq.1 this
set_option maxHeartbeats 2000000 in
theorem letter_any (n : Int) (w : World) : Calls Tryd.prog 141 #[.int .u8 n] w fun e w' => e = .returned (.bool (letterZ n)) ∧ w' = w := by
  have HZ := Lib.hid (show letterZ n = (decide (97 ≤ n) && decide (n ≤ 122) || decide (65 ≤ n) && decide (n ≤ 90) || decide (48 ≤ n) && decide (n ≤ 57) || n == 95) from rfl)
  generalize letterZ n = Z at *
  cases h1 : decide (97 ≤ n) <;> cases h2 : decide (n ≤ 122) <;> cases h3 : decide (65 ≤ n) <;> cases h4 : decide (n ≤ 90) <;> cases h5 : decide (48 ≤ n) <;> cases h6 : decide (n ≤ 57)
  all_goals first
    | (exfalso; simp only [decide_eq_true_eq, decide_eq_false_iff_not] at h1 h2 h3 h4 h5 h6; omega)
    | skip
  all_goals
    go_enter Tryd.func141, Tryd.ntmps141
    go_wp2_with fail
    go_ret
    exact ⟨name_ret (by rw [HZ.out, h1, h2, h3, h4, h5, h6]; rfl), rfl⟩

theorem nameB_cons (c : UInt8) (t : List UInt8) : nameB (c :: t) = (decide (t.length < 20) && !(decide (48 ≤ (c.toNat : Int)) && decide ((c.toNat : Int) ≤ 57)) && (c :: t).all fun d => letterZ d.toNat) := by
  have h0 : ∀ d : UInt8, letterZ d.toNat = goesZ d.toNat := fun d => letter_eq d.toNat d.toNat_lt
  have h1 := begins_eq c.toNat c.toNat_lt
  have h2 : ((c :: t).all fun d => letterZ d.toNat) = (c :: t).all fun d => goesZ d.toNat := by congr 1; funext d; exact h0 d
  rw [nameB, ← h1, h2, List.all_cons, h0 c]
  cases decide (t.length < 20) <;> cases goesZ c.toNat <;> cases (decide (48 ≤ (c.toNat : Int)) && decide ((c.toNat : Int) ≤ 57)) <;> rfl

set_option maxHeartbeats 2000000 in
theorem name5_any (l : List UInt8) (w : World) (hl : l.length ≤ 4000000) : Calls Tryd.prog 110 #[.string ⟨l.toArray⟩] w fun e w' => e = .returned (.bool (nameB l)) ∧ w' = w := by
  cases l with
  | nil =>
    go_enter Tryd.func110, Tryd.ntmps110
    go_wp2_with fail
    go_ret
    exact ⟨rfl, rfl⟩
  | cons c t =>
    have HNB := Lib.hid (nameB_cons c t)
    by_cases h20 : t.length < 20
    · have h20' : decide ((20 : Int) < (t.length : Int) + 1) = false := decide_eq_false (by omega)
      have h1' : decide ((t.length : Int) + 1 < 1) = false := decide_eq_false (by omega)
      have HT := Lib.hid (show decide (t.length < 20) = true from decide_eq_true h20)
      obtain ⟨p, hp⟩ : ∃ p, decide (48 ≤ (c.toNat : Int)) = p := ⟨_, rfl⟩
      obtain ⟨q, hq⟩ : ∃ q, decide ((c.toNat : Int) ≤ 57) = q := ⟨_, rfl⟩
      have HP := Lib.hid (show (decide (48 ≤ (c.toNat : Int)) && decide ((c.toNat : Int) ≤ 57)) = (p && q) by rw [hp, hq])
      have hpn : decide (48 ≤ c.toNat) = p := by rw [← hp, Bool.eq_iff_iff, decide_eq_true_eq, decide_eq_true_eq]; omega
      have hqn : decide (c.toNat ≤ 57) = q := by rw [← hq, Bool.eq_iff_iff, decide_eq_true_eq, decide_eq_true_eq]; omega
      have e0 : ({ data := (c :: t).toArray } : ByteArray)[0]'(by simp [ByteArray.size]) = c := rfl
      have HL := Lib.hid (fun (d : UInt8) W => letter_any d.toNat W)
      cases p <;> cases q
      case true.true =>
        have HF := Lib.hid (show nameB (c :: t) = false by rw [HNB.out, HT.out, HP.out]; rfl)
        go_enter Tryd.func110, Tryd.ntmps110
        go_wp2_with fail
        go_ret
        exact ⟨name_ret (by rw [HF.out]), rfl⟩
      all_goals
        have HF := Lib.hid (show nameB (c :: t) = (c :: t).all fun d => letterZ d.toNat by rw [HNB.out, HT.out, HP.out]; rfl)
        go_enter Tryd.func110, Tryd.ntmps110
        go_wp2_with fail
        go_loopw [3] (fun i wr => ∃ k : Nat, k ≤ t.length + 1 ∧ i = .int .i64 k ∧ wr = w ∧ Hid (((c :: t).all fun d => letterZ d.toNat) = ((c :: t).drop k).all fun d => letterZ d.toNat)) (fun i _ => t.length + 1 - (intOf i).toNat)
        case atStart => exact ⟨0, Nat.zero_le _, rfl, rfl, rfl⟩
        case round =>
          obtain ⟨k, hk, rfl, rfl, H⟩ := hrel
          by_cases hlt : k < t.length + 1
          · obtain ⟨d, hd⟩ : ∃ d, d = (c :: t)[k] := ⟨_, rfl⟩
            have hd' : ({ data := (c :: t).toArray } : ByteArray)[k] = d := by rw [hd]; rfl
            have HN := Lib.hid (show ((c :: t).all fun d => letterZ d.toNat) = (letterZ d.toNat && ((c :: t).drop (k + 1)).all fun d => letterZ d.toNat) by
              rw [H.out, List.drop_eq_getElem_cons (by simpa using hlt), List.all_cons, ← hd])
            have HD := Lib.hid hd'
            clear hd hd' H
            go_wp2_with fail
            rw [HD.out]
            refine (HL.out d _).mono ?_
            obtain ⟨b, hb⟩ : ∃ b, b = letterZ d.toNat := ⟨_, rfl⟩
            rw [← hb] at HN ⊢
            clear hb
            rintro e w1 ⟨rfl, rfl⟩
            cases b
            · go_wp2_with fail
              go_ret
              exact ⟨name_ret (by rw [HF.out, HN.out]; rfl), rfl⟩
            · go_wp2_with fail
              go_roundw
              case rel => exact ⟨k + 1, by omega, by go_num, trivial, Lib.hid (by rw [HN.out]; rfl)⟩
              case measure => simp [intOf]; omega
          · obtain rfl : k = t.length + 1 := by omega
            have HE := Lib.hid (show ((c :: t).all fun d => letterZ d.toNat) = true by rw [H.out, List.drop_of_length_le (by simp)]; rfl)
            clear H
            go_wp2_with fail
            go_ret
            exact ⟨name_ret (by rw [HF.out, HE.out]), rfl⟩
    · have h20' : decide ((20 : Int) < (t.length : Int) + 1) = true := decide_eq_true (by omega)
      have h1' : decide ((t.length : Int) + 1 < 1) = false := decide_eq_false (by omega)
      have HF := Lib.hid (show nameB (c :: t) = false by rw [HNB.out, decide_eq_false h20]; rfl)
      go_enter Tryd.func110, Tryd.ntmps110
      go_wp2_with fail
      go_ret
      exact ⟨name_ret (by rw [HF.out]), rfl⟩
end Go.Proofs.YthmeonimianoeaaDoor

/- The document's names beside the core's words. No condition. -/

/- The walk over patoisref5.alone: whether a node may be but for its children. A bound on the string's length. -/
set_option linter.unusedVariables false
set_option linter.unusedSimpArgs false
namespace Go.Proofs.YthmeonimianoeaaDoor
open Go.RowKit

def aloneB (x : Nd) : Bool := fieldsB x && childrenB x.kind x.k

set_option maxRecDepth 100000 in
set_option maxHeartbeats 4000000 in
theorem alone_any (x : Nd) (w : World) (hs : x.s.length ≤ 4000000) (hk : (1 ≤ x.kind ∧ x.kind ≤ 12) ∨ (20 ≤ x.kind ∧ x.kind ≤ 37)) : Calls Tryd.prog 81 #[.agg #[.int .i64 x.kind, .int .i64 x.n, .int .i64 x.k, .int .i64 x.size, .string ⟨x.s.toArray⟩]] w (Ret w (.bool (aloneB x))) := by
  obtain ⟨kind, n, k, size, s⟩ := x
  simp only at hs hk ⊢
  have C1 := Lib.hid (fun W => closed2_any s W hs)
  have C2 := Lib.hid (fun W => name5_any s W hs)
  have C3 := Lib.hid (fun W => count5_any kind k W hk)
  have HF := Lib.hid (show fieldsB ⟨kind, n, k, size, s⟩ = (if kind == 1 then (n == 0 || n == 1 && !openOf s) && decide (s.length ≤ 2000)
    else if kind == 11 then decide (1 ≤ n) && decide (n ≤ 99) && s.isEmpty
    else if kind == 33 then decide (1 ≤ n) && decide (n ≤ 3) && s.isEmpty
    else if n != 0 then false
    else if kind == 2 then nameB s || s == [42]
    else if namedB kind then nameB s
    else s.isEmpty) from rfl)
  have HA := Lib.hid (show aloneB ⟨kind, n, k, size, s⟩ = (fieldsB ⟨kind, n, k, size, s⟩ && childrenB kind k) from rfl)
  generalize aloneB ⟨kind, n, k, size, s⟩ = R at *
  generalize fieldsB ⟨kind, n, k, size, s⟩ = F at *
  generalize openOf s = ob at *
  generalize childrenB kind k = cb at *
  clear hk
  cases hk0 : (kind == 1)
  case true =>
    obtain rfl : kind = 1 := by simpa using hk0
    clear hk0
    by_cases hl : s.length ≤ 2000
    case pos =>
      cases hn0 : (n == 0)
      case true =>
        go_enter Tryd.func81, Tryd.ntmps81
        go_wp2_with fail
        refine (C3.out _).mono ?_
        rintro e w2 ⟨rfl, rfl⟩
        go_wp2_with fail
        go_ret
        exact ⟨name_ret (by rw [HA.out, HF.out]; (try simp only [beq_eq_false_iff_ne, beq_iff_eq, ne_eq] at hn0); (try simp only [beq_eq_false_iff_ne, beq_iff_eq, ne_eq] at hn1); first | (simp [*]; done) | (simp [*]; omega) | (simp [namedB, *]; done) | (simp [namedB, *]; omega)), (Below.refl _ _).alloc (Nat.le_refl _) _⟩
      case false =>
        cases hn1 : (n == 1)
        case false =>
          go_enter Tryd.func81, Tryd.ntmps81
          go_wp2_with fail
          go_ret
          exact ⟨name_ret (by rw [HA.out, HF.out]; (try simp only [beq_eq_false_iff_ne, beq_iff_eq, ne_eq] at hn0); (try simp only [beq_eq_false_iff_ne, beq_iff_eq, ne_eq] at hn1); first | (simp [*]; done) | (simp [*]; omega) | (simp [namedB, *]; done) | (simp [namedB, *]; omega)), (Below.refl _ _).alloc (Nat.le_refl _) _⟩
        case true =>
          go_enter Tryd.func81, Tryd.ntmps81
          go_wp2_with fail
          refine (C1.out _).mono ?_
          rintro e w1 ⟨rfl, rfl⟩
          cases ob
          · go_wp2_with fail
            refine (C3.out _).mono ?_
            rintro e w2 ⟨rfl, rfl⟩
            go_wp2_with fail
            go_ret
            exact ⟨name_ret (by rw [HA.out, HF.out]; (try simp only [beq_eq_false_iff_ne, beq_iff_eq, ne_eq] at hn0); (try simp only [beq_eq_false_iff_ne, beq_iff_eq, ne_eq] at hn1); first | (simp [*]; done) | (simp [*]; omega) | (simp [namedB, *]; done) | (simp [namedB, *]; omega)), (Below.refl _ _).alloc (Nat.le_refl _) _⟩
          · go_wp2_with fail
            go_ret
            exact ⟨name_ret (by rw [HA.out, HF.out]; (try simp only [beq_eq_false_iff_ne, beq_iff_eq, ne_eq] at hn0); (try simp only [beq_eq_false_iff_ne, beq_iff_eq, ne_eq] at hn1); first | (simp [*]; done) | (simp [*]; omega) | (simp [namedB, *]; done) | (simp [namedB, *]; omega)), (Below.refl _ _).alloc (Nat.le_refl _) _⟩
    case neg =>
      cases hn0 : (n == 0)
      case true =>
        go_enter Tryd.func81, Tryd.ntmps81
        go_wp2_with fail
        go_ret
        exact ⟨name_ret (by rw [HA.out, HF.out]; (try simp only [beq_eq_false_iff_ne, beq_iff_eq, ne_eq] at hn0); (try simp only [beq_eq_false_iff_ne, beq_iff_eq, ne_eq] at hn1); first | (simp [*]; done) | (simp [*]; omega) | (simp [namedB, *]; done) | (simp [namedB, *]; omega)), (Below.refl _ _).alloc (Nat.le_refl _) _⟩
      case false =>
        cases hn1 : (n == 1)
        case false =>
          go_enter Tryd.func81, Tryd.ntmps81
          go_wp2_with fail
          go_ret
          exact ⟨name_ret (by rw [HA.out, HF.out]; (try simp only [beq_eq_false_iff_ne, beq_iff_eq, ne_eq] at hn0); (try simp only [beq_eq_false_iff_ne, beq_iff_eq, ne_eq] at hn1); first | (simp [*]; done) | (simp [*]; omega) | (simp [namedB, *]; done) | (simp [namedB, *]; omega)), (Below.refl _ _).alloc (Nat.le_refl _) _⟩
        case true =>
          go_enter Tryd.func81, Tryd.ntmps81
          go_wp2_with fail
          refine (C1.out _).mono ?_
          rintro e w1 ⟨rfl, rfl⟩
          cases ob
          all_goals
            go_wp2_with fail
            go_ret
            exact ⟨name_ret (by rw [HA.out, HF.out]; (try simp only [beq_eq_false_iff_ne, beq_iff_eq, ne_eq] at hn0); (try simp only [beq_eq_false_iff_ne, beq_iff_eq, ne_eq] at hn1); first | (simp [*]; done) | (simp [*]; omega) | (simp [namedB, *]; done) | (simp [namedB, *]; omega)), (Below.refl _ _).alloc (Nat.le_refl _) _⟩
  case false =>
  cases hk1 : (kind == 2)
  case true =>
    obtain rfl : kind = 2 := by simpa using hk1
    clear hk1
    clear hk0
    generalize nameB s = nb at *
    by_cases h42 : s = [42]
    case pos =>
      subst h42
      cases hn0 : (n == 0)
      all_goals
        go_enter Tryd.func81, Tryd.ntmps81
        go_wp2_with fail
        refine (C2.out _).mono ?_
        rintro e w1 ⟨rfl, rfl⟩
        cases nb
        all_goals
          go_wp2_with fail
          first
            | focus
                go_ret
                exact ⟨name_ret (by rw [HA.out, HF.out]; (try simp only [beq_eq_false_iff_ne, beq_iff_eq, ne_eq] at hn0); (try simp only [beq_eq_false_iff_ne, beq_iff_eq, ne_eq] at hn1); first | (simp [*]; done) | (simp [*]; omega) | (simp [namedB, *]; done) | (simp [namedB, *]; omega)), (Below.refl _ _).alloc (Nat.le_refl _) _⟩
            | focus
                refine (C3.out _).mono ?_
                rintro e w2 ⟨rfl, rfl⟩
                go_wp2_with fail
                go_ret
                exact ⟨name_ret (by rw [HA.out, HF.out]; (try simp only [beq_eq_false_iff_ne, beq_iff_eq, ne_eq] at hn0); (try simp only [beq_eq_false_iff_ne, beq_iff_eq, ne_eq] at hn1); first | (simp [*]; done) | (simp [*]; omega) | (simp [namedB, *]; done) | (simp [namedB, *]; omega)), (Below.refl _ _).alloc (Nat.le_refl _) _⟩
    case neg =>
      have h43 : (({ data := s.toArray } : ByteArray) == { data := #[42] }) = false := by
        rw [Bool.eq_false_iff]
        intro h
        have h2 : s.toArray = #[42] := by simpa using (show (s.toArray == #[42]) = true from h)
        exact h42 (by simpa using congrArg Array.toList h2)
      cases hn0 : (n == 0)
      all_goals
        go_enter Tryd.func81, Tryd.ntmps81
        go_wp2_with fail
        refine (C2.out _).mono ?_
        rintro e w1 ⟨rfl, rfl⟩
        cases nb
        all_goals
          go_wp2_with fail
          first
            | focus
                go_ret
                exact ⟨name_ret (by rw [HA.out, HF.out]; (try simp only [beq_eq_false_iff_ne, beq_iff_eq, ne_eq] at hn0); (try simp only [beq_eq_false_iff_ne, beq_iff_eq, ne_eq] at hn1); first | (simp [*]; done) | (simp [*]; omega) | (simp [namedB, *]; done) | (simp [namedB, *]; omega)), (Below.refl _ _).alloc (Nat.le_refl _) _⟩
            | focus
                refine (C3.out _).mono ?_
                rintro e w2 ⟨rfl, rfl⟩
                go_wp2_with fail
                go_ret
                exact ⟨name_ret (by rw [HA.out, HF.out]; (try simp only [beq_eq_false_iff_ne, beq_iff_eq, ne_eq] at hn0); (try simp only [beq_eq_false_iff_ne, beq_iff_eq, ne_eq] at hn1); first | (simp [*]; done) | (simp [*]; omega) | (simp [namedB, *]; done) | (simp [namedB, *]; omega)), (Below.refl _ _).alloc (Nat.le_refl _) _⟩
  case false =>
  cases hk2 : (kind == 11)
  case true =>
    obtain rfl : kind = 11 := by simpa using hk2
    clear hk2
    clear hk0
    clear hk1
    by_cases hn0 : 1 ≤ n
    all_goals by_cases hn1 : n ≤ 99
    all_goals first
      | (exfalso; omega)
      | skip
    all_goals cases s
    all_goals
      go_enter Tryd.func81, Tryd.ntmps81
      go_wp2_with fail
      first
        | focus
            go_ret
            exact ⟨name_ret (by rw [HA.out, HF.out]; (try simp only [beq_eq_false_iff_ne, beq_iff_eq, ne_eq] at hn0); (try simp only [beq_eq_false_iff_ne, beq_iff_eq, ne_eq] at hn1); first | (simp [*]; done) | (simp [*]; omega) | (simp [namedB, *]; done) | (simp [namedB, *]; omega)), (Below.refl _ _).alloc (Nat.le_refl _) _⟩
        | focus
            refine (C3.out _).mono ?_
            rintro e w2 ⟨rfl, rfl⟩
            go_wp2_with fail
            go_ret
            exact ⟨name_ret (by rw [HA.out, HF.out]; (try simp only [beq_eq_false_iff_ne, beq_iff_eq, ne_eq] at hn0); (try simp only [beq_eq_false_iff_ne, beq_iff_eq, ne_eq] at hn1); first | (simp [*]; done) | (simp [*]; omega) | (simp [namedB, *]; done) | (simp [namedB, *]; omega)), (Below.refl _ _).alloc (Nat.le_refl _) _⟩
  case false =>
  cases hk3 : (kind == 33)
  case true =>
    obtain rfl : kind = 33 := by simpa using hk3
    clear hk3
    clear hk0
    clear hk1
    clear hk2
    by_cases hn0 : 1 ≤ n
    all_goals by_cases hn1 : n ≤ 3
    all_goals first
      | (exfalso; omega)
      | skip
    all_goals cases s
    all_goals
      go_enter Tryd.func81, Tryd.ntmps81
      go_wp2_with fail
      first
        | focus
            go_ret
            exact ⟨name_ret (by rw [HA.out, HF.out]; (try simp only [beq_eq_false_iff_ne, beq_iff_eq, ne_eq] at hn0); (try simp only [beq_eq_false_iff_ne, beq_iff_eq, ne_eq] at hn1); first | (simp [*]; done) | (simp [*]; omega) | (simp [namedB, *]; done) | (simp [namedB, *]; omega)), (Below.refl _ _).alloc (Nat.le_refl _) _⟩
        | focus
            refine (C3.out _).mono ?_
            rintro e w2 ⟨rfl, rfl⟩
            go_wp2_with fail
            go_ret
            exact ⟨name_ret (by rw [HA.out, HF.out]; (try simp only [beq_eq_false_iff_ne, beq_iff_eq, ne_eq] at hn0); (try simp only [beq_eq_false_iff_ne, beq_iff_eq, ne_eq] at hn1); first | (simp [*]; done) | (simp [*]; omega) | (simp [namedB, *]; done) | (simp [namedB, *]; omega)), (Below.refl _ _).alloc (Nat.le_refl _) _⟩
  case false =>
  cases hk4 : (kind == 22)
  case true =>
    obtain rfl : kind = 22 := by simpa using hk4
    clear hk4
    clear hk0
    clear hk1
    clear hk2
    clear hk3
    generalize nameB s = nb at *
    cases hn0 : (n == 0)
    all_goals
      go_enter Tryd.func81, Tryd.ntmps81
      go_wp2_with fail
      refine (C2.out _).mono ?_
      rintro e w1 ⟨rfl, rfl⟩
      cases nb
      all_goals
        go_wp2_with fail
        first
          | focus
              go_ret
              exact ⟨name_ret (by rw [HA.out, HF.out]; (try simp only [beq_eq_false_iff_ne, beq_iff_eq, ne_eq] at hn0); (try simp only [beq_eq_false_iff_ne, beq_iff_eq, ne_eq] at hn1); first | (simp [*]; done) | (simp [*]; omega) | (simp [namedB, *]; done) | (simp [namedB, *]; omega)), (Below.refl _ _).alloc (Nat.le_refl _) _⟩
          | focus
              refine (C3.out _).mono ?_
              rintro e w2 ⟨rfl, rfl⟩
              go_wp2_with fail
              go_ret
              exact ⟨name_ret (by rw [HA.out, HF.out]; (try simp only [beq_eq_false_iff_ne, beq_iff_eq, ne_eq] at hn0); (try simp only [beq_eq_false_iff_ne, beq_iff_eq, ne_eq] at hn1); first | (simp [*]; done) | (simp [*]; omega) | (simp [namedB, *]; done) | (simp [namedB, *]; omega)), (Below.refl _ _).alloc (Nat.le_refl _) _⟩
  case false =>
  cases hk5 : (kind == 29)
  case true =>
    obtain rfl : kind = 29 := by simpa using hk5
    clear hk5
    clear hk0
    clear hk1
    clear hk2
    clear hk3
    clear hk4
    generalize nameB s = nb at *
    cases hn0 : (n == 0)
    all_goals
      go_enter Tryd.func81, Tryd.ntmps81
      go_wp2_with fail
      refine (C2.out _).mono ?_
      rintro e w1 ⟨rfl, rfl⟩
      cases nb
      all_goals
        go_wp2_with fail
        first
          | focus
              go_ret
              exact ⟨name_ret (by rw [HA.out, HF.out]; (try simp only [beq_eq_false_iff_ne, beq_iff_eq, ne_eq] at hn0); (try simp only [beq_eq_false_iff_ne, beq_iff_eq, ne_eq] at hn1); first | (simp [*]; done) | (simp [*]; omega) | (simp [namedB, *]; done) | (simp [namedB, *]; omega)), (Below.refl _ _).alloc (Nat.le_refl _) _⟩
          | focus
              refine (C3.out _).mono ?_
              rintro e w2 ⟨rfl, rfl⟩
              go_wp2_with fail
              go_ret
              exact ⟨name_ret (by rw [HA.out, HF.out]; (try simp only [beq_eq_false_iff_ne, beq_iff_eq, ne_eq] at hn0); (try simp only [beq_eq_false_iff_ne, beq_iff_eq, ne_eq] at hn1); first | (simp [*]; done) | (simp [*]; omega) | (simp [namedB, *]; done) | (simp [namedB, *]; omega)), (Below.refl _ _).alloc (Nat.le_refl _) _⟩
  case false =>
  cases hk6 : (kind == 35)
  case true =>
    obtain rfl : kind = 35 := by simpa using hk6
    clear hk6
    clear hk0
    clear hk1
    clear hk2
    clear hk3
    clear hk4
    clear hk5
    generalize nameB s = nb at *
    cases hn0 : (n == 0)
    all_goals
      go_enter Tryd.func81, Tryd.ntmps81
      go_wp2_with fail
      refine (C2.out _).mono ?_
      rintro e w1 ⟨rfl, rfl⟩
      cases nb
      all_goals
        go_wp2_with fail
        first
          | focus
              go_ret
              exact ⟨name_ret (by rw [HA.out, HF.out]; (try simp only [beq_eq_false_iff_ne, beq_iff_eq, ne_eq] at hn0); (try simp only [beq_eq_false_iff_ne, beq_iff_eq, ne_eq] at hn1); first | (simp [*]; done) | (simp [*]; omega) | (simp [namedB, *]; done) | (simp [namedB, *]; omega)), (Below.refl _ _).alloc (Nat.le_refl _) _⟩
          | focus
              refine (C3.out _).mono ?_
              rintro e w2 ⟨rfl, rfl⟩
              go_wp2_with fail
              go_ret
              exact ⟨name_ret (by rw [HA.out, HF.out]; (try simp only [beq_eq_false_iff_ne, beq_iff_eq, ne_eq] at hn0); (try simp only [beq_eq_false_iff_ne, beq_iff_eq, ne_eq] at hn1); first | (simp [*]; done) | (simp [*]; omega) | (simp [namedB, *]; done) | (simp [namedB, *]; omega)), (Below.refl _ _).alloc (Nat.le_refl _) _⟩
  case false =>
  cases hk7 : (kind == 31)
  case true =>
    obtain rfl : kind = 31 := by simpa using hk7
    clear hk7
    clear hk0
    clear hk1
    clear hk2
    clear hk3
    clear hk4
    clear hk5
    clear hk6
    generalize nameB s = nb at *
    cases hn0 : (n == 0)
    all_goals
      go_enter Tryd.func81, Tryd.ntmps81
      go_wp2_with fail
      refine (C2.out _).mono ?_
      rintro e w1 ⟨rfl, rfl⟩
      cases nb
      all_goals
        go_wp2_with fail
        first
          | focus
              go_ret
              exact ⟨name_ret (by rw [HA.out, HF.out]; (try simp only [beq_eq_false_iff_ne, beq_iff_eq, ne_eq] at hn0); (try simp only [beq_eq_false_iff_ne, beq_iff_eq, ne_eq] at hn1); first | (simp [*]; done) | (simp [*]; omega) | (simp [namedB, *]; done) | (simp [namedB, *]; omega)), (Below.refl _ _).alloc (Nat.le_refl _) _⟩
          | focus
              refine (C3.out _).mono ?_
              rintro e w2 ⟨rfl, rfl⟩
              go_wp2_with fail
              go_ret
              exact ⟨name_ret (by rw [HA.out, HF.out]; (try simp only [beq_eq_false_iff_ne, beq_iff_eq, ne_eq] at hn0); (try simp only [beq_eq_false_iff_ne, beq_iff_eq, ne_eq] at hn1); first | (simp [*]; done) | (simp [*]; omega) | (simp [namedB, *]; done) | (simp [namedB, *]; omega)), (Below.refl _ _).alloc (Nat.le_refl _) _⟩
  case false =>
  have hnm : namedB kind = false := by
    simp only [beq_eq_false_iff_ne] at *
    simp [namedB, *]
  cases s
  all_goals cases hn0 : (n == 0)
  all_goals
    go_enter Tryd.func81, Tryd.ntmps81
    go_wp2_with fail
    first
      | focus
          go_ret
          exact ⟨name_ret (by rw [HA.out, HF.out]; (try simp only [beq_eq_false_iff_ne, beq_iff_eq, ne_eq] at hn0); (try simp only [beq_eq_false_iff_ne, beq_iff_eq, ne_eq] at hn1); first | (simp [*]; done) | (simp [*]; omega) | (simp [namedB, *]; done) | (simp [namedB, *]; omega)), (Below.refl _ _).alloc (Nat.le_refl _) _⟩
      | focus
          refine (C3.out _).mono ?_
          rintro e w2 ⟨rfl, rfl⟩
          go_wp2_with fail
          go_ret
          exact ⟨name_ret (by rw [HA.out, HF.out]; (try simp only [beq_eq_false_iff_ne, beq_iff_eq, ne_eq] at hn0); (try simp only [beq_eq_false_iff_ne, beq_iff_eq, ne_eq] at hn1); first | (simp [*]; done) | (simp [*]; omega) | (simp [namedB, *]; done) | (simp [namedB, *]; omega)), (Below.refl _ _).alloc (Nat.le_refl _) _⟩
end Go.Proofs.YthmeonimianoeaaDoor

/- What patoisref5.look tells beside core.look: children that lie in one another until one does not fit, with no program in sight. No condition. -/
set_option linter.unusedVariables false
set_option linter.unusedSimpArgs false
namespace Go.Proofs.YthmeonimianoeaaDoor

/-- The children from place c on: so many fit, and the next one's size does not. -/
def chainP (L : List Nd) (e : Nat) : Nat → Nat → Prop
  | 0, c => c < e ∧ ∃ y, L[c]? = some y ∧ (y.size < 1 ∨ y.size > (e : Int) - c)
  | r + 1, c => c < e ∧ ∃ y, L[c]? = some y ∧ ¬ (y.size < 1 ∨ y.size > (e : Int) - c) ∧ chainP L e r (c + y.size.toNat)
theorem chain_lt {L : List Nd} {e r c : Nat} (h : chainP L e r c) : c < e := by
  cases r with
  | zero => exact h.1
  | succ r => exact h.1
theorem chain_bad {L : List Nd} {e c : Nat} (h : c < e) (hc : c < L.length) (hs : L[c].size < 1 ∨ L[c].size > (e : Int) - c) : chainP L e 0 c := ⟨h, _, List.getElem?_eq_getElem hc, hs⟩
theorem chain_next {L : List Nd} {e r c : Nat} (h : c < e) (hc : c < L.length) (hs : ¬ (L[c].size < 1 ∨ L[c].size > (e : Int) - c)) (hn : chainP L e r (c + L[c].size.toNat)) : chainP L e (r + 1) c := ⟨h, _, List.getElem?_eq_getElem hc, hs, hn⟩
theorem chain_at0 {L : List Nd} {e c : Nat} (h : chainP L e 0 c) (hc : c < L.length) : L[c].size < 1 ∨ L[c].size > (e : Int) - c := by
  obtain ⟨_, y, h1, h2⟩ := h
  rw [List.getElem?_eq_getElem hc] at h1
  injection h1 with h1
  rw [h1]; exact h2
theorem chain_at {L : List Nd} {e r c : Nat} (h : chainP L e (r + 1) c) (hc : c < L.length) : ¬ (L[c].size < 1 ∨ L[c].size > (e : Int) - c) ∧ chainP L e r (c + L[c].size.toNat) := by
  obtain ⟨_, y, h1, h2, h3⟩ := h
  rw [List.getElem?_eq_getElem hc] at h1
  injection h1 with h1
  subst h1
  exact ⟨h2, h3⟩
theorem chain_not {L : List Nd} {e : Nat} {f : Nat → Nat → Option (Nat × Bool)} (he : e ≤ L.length) (hf : ∀ k c (hc : c < L.length), f k c = none → 1 ≤ L[c].size ∧ L[c].size ≤ (e : Int) - c) :
    ∀ (r r' k c : Nat), r < r' → chainP L e r c → kidsP f L r' k c ≠ none := by
  intro r
  induction r with
  | zero =>
    intro r' k c hr h hn
    obtain ⟨s, rfl⟩ : ∃ s, r' = s + 1 := ⟨r' - 1, by omega⟩
    have hc : c < L.length := by have := chain_lt h; omega
    cases hz : f k c with
    | some z => rw [kidsP_some hz] at hn; cases hn
    | none =>
      have h1 := hf k c hc hz
      have h2 := chain_at0 h hc
      omega
  | succ r ih =>
    intro r' k c hr h hn
    obtain ⟨s, rfl⟩ : ∃ s, r' = s + 1 := ⟨r' - 1, by omega⟩
    have hc : c < L.length := by have := chain_lt h; omega
    cases hz : f k c with
    | some z => rw [kidsP_some hz] at hn; cases hn
    | none =>
      rw [kidsP_none hz hc] at hn
      exact ih s (k + 1) _ (by omega) (chain_at h hc).2 hn
/-- Where a child's size does not fit something is amiss. -/
theorem lookP_chain {L : List Nd} {d i e r : Nat} {word last : Bool} {x : Nd} (hx : L[i]? = some x) (he : e ≤ L.length) (hr : r < x.k.toNat) (h : chainP L (i + x.size.toNat) r (i + 1)) : (lookP L d i e word last).isNone = false := by
  cases hl : lookP L d i e word last with
  | some z => rfl
  | none =>
    exfalso
    cases hb : headBad x ((e : Int) - i) word last with
    | true => rw [lookP_bad hx hb] at hl; cases hl
    | false =>
      by_cases h2 : x.k = 0 ∧ x.size ≠ 1
      · rw [lookP_leaf hx hb h2] at hl; cases hl
      · cases h3 : preP L (i + x.size.toNat) x.k.toNat (i + 1) with
        | true => rw [lookP_pre hx hb h2 h3] at hl; cases hl
        | false =>
          cases d with
          | zero => rw [lookP_deep hx hb h2 h3] at hl; cases hl
          | succ d =>
            rw [lookP_kids hx hb h2 h3] at hl
            obtain ⟨_, _, _, _, h5, _⟩ := headBad_false hb
            exact chain_not (by omega) (fun k c hc hz => by have := lookP_fits hc hz; exact ⟨this.1, this.2.1⟩) r _ 0 (i + 1) hr h hl
end Go.Proofs.YthmeonimianoeaaDoor
